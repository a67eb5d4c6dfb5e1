/- code.Check: the walk through a function's orders: its state. -/
import Derived.Test.YtjlnaiiajlahgaaDoorCodeB
import Derived.Test.YtjlnaiiajlahgaaDoorTryE
import Derived.Test.YtjlnaiiajlahgaaDoorCells
set_option linter.unusedVariables false
set_option linter.unusedSimpArgs false
namespace Go.Proofs.YtjlnaiiajlahgaaDoor.cod
open Go.Bk Go.RowKit Go.Proofs.YtjlnaiiajlahgaaDoor.funs

abbrev Rh := Option Addr × Nat
def rowV (h : Rh) (l : Trs) : Value := .slice h.1 l.length h.2
def rowsV : List Rh → List Trs → List Value
  | h :: hs, l :: ls => rowV h l :: rowsV hs ls
  | _, _ => []
theorem rowsV_at : ∀ {hs : List Rh} {ls : List Trs} {k : Nat} {h : Rh} {l : Trs}, hs[k]? = some h → ls[k]? = some l → (rowsV hs ls)[k]? = some (rowV h l)
  | h :: hs, l :: ls, 0, _, _, e1, e2 => by simp at e1 e2; subst e1 e2; rfl
  | h :: hs, l :: ls, k + 1, _, _, e1, e2 => by
    have := rowsV_at (hs := hs) (ls := ls) (k := k) (by simpa using e1) (by simpa using e2)
    simpa [rowsV] using this
  | [], _, _, _, _, e1, _ => by simp at e1
  | _ :: _, [], _, _, _, _, e2 => by simp at e2
theorem rowsV_set : ∀ {hs : List Rh} {ls : List Trs} (k : Nat) (h : Rh) (l : Trs), hs.length = ls.length → (rowsV hs ls).set k (rowV h l) = rowsV (hs.set k h) (ls.set k l)
  | [], [], _, _, _, _ => rfl
  | _ :: hs, _ :: ls, 0, _, _, _ => rfl
  | _ :: hs, _ :: ls, k + 1, h, l, e => by
    show _ :: (rowsV hs ls).set k _ = _ :: rowsV (hs.set k h) (ls.set k l)
    rw [rowsV_set (hs := hs) (ls := ls) k h l (by simpa using e)]
  | [], _ :: _, _, _, _, e => by simp at e
  | _ :: _, [], _, _, _, e => by simp at e
def todoI (s : WSt) : List Int := s.todo.map fun (a : Nat) => (a : Int)
/-- The walk's struct. -/
abbrev wkC (pa rg : Int) (gn : Bool) (a3 : Option Addr) (nA c3 : Nat) (a4 : Option Addr) (n c4 gs go : Nat) (vT : Value) (bad : Bool) : List Value :=
  [.int .i64 pa, .int .i64 rg, .bool gn, .slice a3 nA c3, .slice a4 n c4, .slice (some ⟨gs, 0, none⟩) n n, .slice (some ⟨go, 0, none⟩) n n, vT, .bool bad]
/-- The state of a walk in memory. -/
structure Wk (B : Nat) (w : World) (g gs go n : Nat) (pa rg : Int) (gn : Bool) (a3 : Option Addr) (nA c3 : Nat) (a4 : Option Addr) (c4 : Nat) (s : WSt) (T : Nat → Prop) (vT : Value) (hs : List Rh) : Prop where
  box : Blk w g 200 (wkC pa rg gn a3 nA c3 a4 n c4 gs go vT s.bad)
  seen : Blk w gs 4 (s.seen.map Value.bool)
  out : Blk w go 216 (rowsV hs s.out)
  hl : hs.length = s.out.length
  rows : ∀ (j : Nat) h l, hs[j]? = some h → s.out[j]? = some l → Arr T w h.1 l ∧ (h.1 = none → h.2 = 0) ∧ l.length ≤ h.2 ∧ h.2 ≤ maxLen
  todo : Go.Bk.Own (fun _ => False) w B 3 vT (todoI s)
  bg : B ≤ g
  bs : B ≤ gs
  bo : B ≤ go
  gsn : g ≠ gs
  gon : g ≠ go
  son : gs ≠ go
  tg : vT.ownBlock ≠ some g
  ts : vT.ownBlock ≠ some gs
  to : vT.ownBlock ≠ some go
  tt : ∀ b, T b → b < w.heap.size ∧ b ≠ g ∧ b ≠ gs ∧ b ≠ go ∧ vT.ownBlock ≠ some b
  ls : s.seen.length = n
  lo : s.out.length = n
theorem own_sameb {α : Type} [Rep α] {w w' : World} {B : Nat} {e : TypeId} {v : Value} {xs : List α} (h : Go.Bk.Own (fun _ => False) w B e v xs) (hs : ∀ b, v.ownBlock = some b → w'.heap[b]? = w.heap[b]?) : Go.Bk.Own (fun _ => False) w' B e v xs := by
  obtain ⟨css, h1, h2, h3, h4⟩ := h
  refine ⟨css, h1, fun k x cs hx hc => Rep.keep (fun _ h => h.elim) (h2 k x cs hx hc), h3, ?_⟩
  rcases h4 with h4 | ⟨g, cap, cur, rfl, k1, k2, k3⟩
  · exact .inl h4
  · exact .inr ⟨g, cap, cur, rfl, k1, (hs g rfl).trans k2, k3⟩
section
variable {B : Nat} {w w2 : World} {g gs go n : Nat} {pa rg : Int} {gn : Bool} {a3 : Option Addr} {nA c3 : Nat} {a4 : Option Addr} {c4 : Nat} {s : WSt} {T : Nat → Prop} {vT vT' : Value} {hs : List Rh}
theorem Wk.keep (h : Wk B w g gs go n pa rg gn a3 nA c3 a4 c4 s T vT hs) (hb : RowKit.Below w.heap.size w w2) : Wk B w2 g gs go n pa rg gn a3 nA c3 a4 c4 s T vT hs :=
  ⟨h.box.keep (hb.block _ h.box.lt), h.seen.keep (hb.block _ h.seen.lt), h.out.keep (hb.block _ h.out.lt), h.hl, fun j x l h1 h2 => ⟨(h.rows j x l h1 h2).1.keep fun b hb' => hb.block b (h.tt b hb').1, (h.rows j x l h1 h2).2⟩, h.todo.below hb (fun _ h => h.elim),
    h.bg, h.bs, h.bo, h.gsn, h.gon, h.son, h.tg, h.ts, h.to, fun b hb' => ⟨Nat.lt_of_lt_of_le (h.tt b hb').1 hb.size, (h.tt b hb').2⟩, h.ls, h.lo⟩
theorem own_off {k : Nat} (h : vT.ownBlock ≠ some k) : vT.ownBlock = none ∨ vT.ownBlock ≠ some k := .inr h
/-- It is bad. -/
theorem Wk.setBad (h : Wk B w g gs go n pa rg gn a3 nA c3 a4 c4 s T vT hs) : Wk B (w.setCell ⟨g, 8, none⟩ (.bool true)) g gs go n pa rg gn a3 nA c3 a4 c4 { s with bad := true } T vT hs := by
  have hg : w.grownBy (w.setCell ⟨g, 8, none⟩ (.bool true)) (some g) := grownBy_setCell (World.grownBy.refl _ _) _ _
  exact ⟨h.box.set 8 _, h.seen.keep (hg.block _ h.seen.lt (fun e => h.gsn (Option.some.inj e).symm)), h.out.keep (hg.block _ h.out.lt (fun e => h.gon (Option.some.inj e).symm)), h.hl,
    fun j x l h1 h2 => ⟨(h.rows j x l h1 h2).1.keep fun b hb' => hg.block b (h.tt b hb').1 (fun e => (h.tt b hb').2.1 (Option.some.inj e)), (h.rows j x l h1 h2).2⟩, h.todo.keep hg (.inr h.tg) (fun _ h => h.elim),
    h.bg, h.bs, h.bo, h.gsn, h.gon, h.son, h.tg, h.ts, h.to, fun b hb' => ⟨Nat.lt_of_lt_of_le (h.tt b hb').1 hg.size, (h.tt b hb').2⟩, h.ls, h.lo⟩
/-- An order is seen, with its tries. -/
theorem Wk.mark (h : Wk B w g gs go n pa rg gn a3 nA c3 a4 c4 s T vT hs) {k : Nat} {x : Rh} {l : Trs} (hx : Arr T w x.1 l ∧ (x.1 = none → x.2 = 0) ∧ l.length ≤ x.2 ∧ x.2 ≤ maxLen)
    (hz : w.heap.size ≤ w2.heap.size) (hoth : ∀ b, b < w.heap.size → b ≠ gs → b ≠ go → w2.heap[b]? = w.heap[b]?) (hbs : Blk w2 gs 4 ((s.seen.map Value.bool).set k (.bool true))) (hbo : Blk w2 go 216 ((rowsV hs s.out).set k (rowV x l))) :
    Wk B w2 g gs go n pa rg gn a3 nA c3 a4 c4 ⟨s.seen.set k true, s.out.set k l, s.todo, s.bad⟩ T vT (hs.set k x) := by
  have hT : ∀ b, T b → w2.heap[b]? = w.heap[b]? := fun b hb' => hoth b (h.tt b hb').1 (h.tt b hb').2.2.1 (h.tt b hb').2.2.2.1
  refine ⟨h.box.keep (hoth _ h.box.lt h.gsn h.gon), by rw [List.map_set]; exact hbs, by rw [← rowsV_set k x l h.hl]; exact hbo, by simp [h.hl], fun j y m h1 h2 => ?_, ?_,
    h.bg, h.bs, h.bo, h.gsn, h.gon, h.son, h.tg, h.ts, h.to, fun b hb' => ⟨Nat.lt_of_lt_of_le (h.tt b hb').1 hz, (h.tt b hb').2⟩, by simp [h.ls], by simp [h.lo]⟩
  · by_cases e : k = j
    · subst e
      rw [List.getElem?_set] at h1 h2
      split at h1
      · rename_i hlt
        split at h1
        · split at h2
          · split at h2
            · obtain rfl := Option.some.inj h1
              obtain rfl := Option.some.inj h2
              exact ⟨hx.1.keep hT, hx.2⟩
            · cases h2
          · rename_i hc; exact absurd rfl hc
        · cases h1
      · rename_i hc; exact absurd rfl hc
    · rw [List.getElem?_set_ne e] at h1 h2
      exact ⟨(h.rows j y m h1 h2).1.keep hT, (h.rows j y m h1 h2).2⟩
  · refine own_sameb h.todo fun b hb => ?_
    exact hoth b (h.todo.lt b hb).2 (fun e => h.ts (by rw [← e]; exact hb)) (fun e => h.to (by rw [← e]; exact hb))
/-- One more is to be done. -/
theorem Wk.push (h : Wk B w g gs go n pa rg gn a3 nA c3 a4 c4 s T vT hs) {k : Nat} (ho : Go.Bk.Own (fun _ => False) w2 B 3 vT' (todoI s ++ [(k : Int)])) (hg : w.grownBy w2 vT.ownBlock) (hst : Stay w vT vT') :
    Wk B (w2.setCell ⟨g, 7, none⟩ vT') g gs go n pa rg gn a3 nA c3 a4 c4 ⟨s.seen, s.out, s.todo ++ [k], s.bad⟩ T vT' hs := by
  have off : ∀ b, b < w.heap.size → vT.ownBlock ≠ some b → vT'.ownBlock ≠ some b := fun b hb hne e => by
    rcases hst b e with e2 | e2
    · exact hne e2
    · omega
  have hg2 : w2.grownBy (w2.setCell ⟨g, 7, none⟩ vT') (some g) := grownBy_setCell (World.grownBy.refl _ _) _ _
  have hb1 := h.box.keep (hg.block _ h.box.lt (fun e => h.tg e.symm))
  have hs1 := h.seen.keep (hg.block _ h.seen.lt (fun e => h.ts e.symm))
  have ho1 := h.out.keep (hg.block _ h.out.lt (fun e => h.to e.symm))
  have hT : ∀ b, T b → (w2.setCell ⟨g, 7, none⟩ vT').heap[b]? = w.heap[b]? := fun b hb' =>
    (hg2.block b (Nat.lt_of_lt_of_le (h.tt b hb').1 hg.size) (fun e => (h.tt b hb').2.1 (Option.some.inj e))).trans (hg.block b (h.tt b hb').1 (fun e => (h.tt b hb').2.2.2.2 e.symm))
  have tg' := off g h.box.lt h.tg
  refine ⟨hb1.set 7 _, hs1.keep (hg2.block _ hs1.lt (fun e => h.gsn (Option.some.inj e).symm)), ho1.keep (hg2.block _ ho1.lt (fun e => h.gon (Option.some.inj e).symm)), h.hl, fun j y m h1 h2 => ⟨(h.rows j y m h1 h2).1.keep hT, (h.rows j y m h1 h2).2⟩, ?_,
    h.bg, h.bs, h.bo, h.gsn, h.gon, h.son, tg', off gs h.seen.lt h.ts, off go h.out.lt h.to, fun b hb' => ⟨Nat.lt_of_lt_of_le (h.tt b hb').1 (Nat.le_trans hg.size hg2.size), (h.tt b hb').2.1, (h.tt b hb').2.2.1, (h.tt b hb').2.2.2.1, off b (h.tt b hb').1 (h.tt b hb').2.2.2.2⟩, h.ls, h.lo⟩
  have := ho.keep hg2 (.inr tg') (fun _ h => h.elim)
  have e : todoI ⟨s.seen, s.out, s.todo ++ [k], s.bad⟩ = todoI s ++ [(k : Int)] := by unfold todoI; simp
  rw [e]
  exact this
end
end Go.Proofs.YtjlnaiiajlahgaaDoor.cod
