/- slices.Equal, slices.Clone at tries, walked. -/
import Derived.Test.YtekofpigmggbbaaDoorQApp
import Derived.WalkSpells
import Derived.Test.YtekofpigmggbbaaDoorQMem
import Derived.Test.YtekofpigmggbbaaDoorQFuncsG
import Derived.Deep.QuietTactic
import Derived.Test.YtekofpigmggbbaaDoorQCodeB
import Derived.Deep.RegionLaw
import Derived.Deep.RegionHeld3
import Derived.Test.YtekofpigmggbbaaDoorQSteps
import Derived.StillTailTactics
set_option linter.unusedVariables false
set_option linter.unusedSimpArgs false
namespace Go.Bk
open Go.RowKit
theorem own_zero {α : Type} [Rep α] {S : Nat → Prop} {w : World} {B g : Nat} {e : TypeId} (hg : B ≤ g) (hb : Blk w g e []) : Own S w B e (.slice (some ⟨g, 0, none⟩) 0 0) ([] : List α) :=
  ⟨[], rfl, fun k x cs hk => by simp at hk, by simp, .inr ⟨g, 0, #[], rfl, hg, hb, Nat.le_refl _, by simp, by simp, by simp⟩⟩
theorem box_zero {w : World} {e : TypeId} : Blk (w.alloc (.cells #[] e)) w.heap.size e [] := blk_new w [] e
theorem box_below {w w' : World} {o : Obj} {n c : Nat} (hg : (w.alloc o).grownBy w' (Value.slice (some ⟨w.heap.size, 0, none⟩) n c).ownBlock) : Below w.heap.size w w' :=
  ((Below.refl _ _).alloc (Nat.le_refl _) _).grown hg (by simp) (fun r hr => by have : w.heap.size = r := Option.some.inj hr; omega)
theorem arr_none {α : Type} [Rep α] {S : Nat → Prop} {w : World} {xs : List α} (h : Arr S w none xs) : xs = [] := by
  rcases h.lies with h | ⟨_, _, h, _⟩
  · exact h
  · cases h
end Go.Bk
namespace Go.Proofs.YtekofpigmggbbaaDoor.cod
open Go.Bk Go.RowKit
def SameTo (xs ys : List Api.Try) (k : Nat) : Prop := ∀ i, i < k → xs[i]? = ys[i]?
theorem SameTo.succ {xs ys : List Api.Try} {k : Nat} (h : SameTo xs ys k) (he : xs[k]? = ys[k]?) : SameTo xs ys (k + 1) := fun i hi => by
  by_cases e : i = k
  · rw [e]; exact he
  · exact h i (by omega)
theorem get_at {α : Type} {l : List α} {n k : Nat} (hn : l.length = n) (h : k < n) : ∃ x, l[k]? = some x := ⟨_, List.getElem?_eq_getElem (by omega)⟩
set_option maxRecDepth 100000 in
theorem equalT_any {S1 S2 : Nat → Prop} {w : World} {a1 a2 : Option Addr} {c1 c2 n1 n2 : Nat} {xs ys : List Api.Try} (hn1 : xs.length = n1) (hn2 : ys.length = n2) (h1 : Arr S1 w a1 xs) (h2 : Arr S2 w a2 ys) :
    Calls Tryd.prog 162 #[.slice a1 n1 c1, .slice a2 n2 c2] w fun e w' => e = .returned (.bool (decide (xs = ys))) ∧ Quiet w w' := by
  have hm1 := h1.small; have hm2 := h2.small
  rw [hn1] at hm1; rw [hn2] at hm2
  unfold maxLen at hm1 hm2
  have H1 := Lib.hid hn1; have H2 := Lib.hid hn2
  clear hn1 hn2
  by_cases hl : n1 = n2
  · subst hl
    have hb : ((n1 : Int) != (n1 : Int)) = false := by simp
    go_enter Tryd.func162, Tryd.ntmps162
    go_wp2_with fail
    go_loopw [13] (fun i w' => ∃ k : Nat, k ≤ n1 ∧ i = .int .i64 k ∧ SameTo xs ys k ∧ Quiet w w') (fun i _ => n1 - (intOf i).toNat)
    case atStart => exact ⟨0, Nat.zero_le _, rfl, fun i hi => by omega, Quiet.refl _⟩
    case round =>
      obtain ⟨k, hk, rfl, hb, hq⟩ := hrel
      have HQ := Lib.hid hq
      have HB := Lib.hid hb
      have h1' := h1.keep (w' := wr) (fun b _ => hq.heap b)
      have h2' := h2.keep (w' := wr) (fun b _ => hq.heap b)
      clear hb hq
      by_cases hlt : k < n1
      · obtain ⟨x, hx⟩ := get_at H1.out hlt
        obtain ⟨y, hy⟩ := get_at H2.out hlt
        obtain ⟨b1, o1, rfl, -, q1, q2, -⟩ := api_Try_elem h1' hx
        obtain ⟨b2, o2, rfl, -, q3, q4, -⟩ := api_Try_elem h2' hy
        have HX := Lib.hid hx; have HY := Lib.hid hy
        clear h1 h2 h1' h2' hx hy
        by_cases he : x = y
        · subst he
          have hee1 : (x.Reg == x.Reg) = true := by simp
          have hee2 : (x.At == x.At) = true := by simp
          go_wp2
          go_quiet (fail)
          go_wp2
          go_roundw
          case rel => exact ⟨k + 1, by omega, by go_num, HB.out.succ (HX.out.trans HY.out.symm), HQ.out.more _⟩
          case measure => simp [intOf]; omega
        · have hee3 : (x.Reg == y.Reg) = false ∨ ((x.Reg == y.Reg) = true ∧ (x.At == y.At) = false) := by
            obtain ⟨r1, t1⟩ := x
            obtain ⟨r2, t2⟩ := y
            by_cases h1 : r1 = r2 <;> by_cases h2 : t1 = t2 <;> simp_all
          have HE := Lib.hid he
          clear he
          have hne : xs ≠ ys := fun e => HE.out (by have := HX.out; rw [e, HY.out] at this; exact (Option.some.inj this).symm)
          have HNE : Hid (decide (xs = ys) = false) := decide_eq_false hne
          clear hne
          rcases hee3 with d1 | ⟨d1, d2⟩
          all_goals
            go_wp2
            go_quiet (fail)
            go_wp2
            go_ret
            exact ⟨by rw [HNE.out]; rfl, HQ.out.more _⟩
      · clear h1' h2'
        go_wp2
        go_ret
        have : k = n1 := by omega
        have heq : xs = ys := List.ext_getElem? fun i => by
          by_cases hi : i < k
          · exact HB.out i hi
          · have := H1.out; have := H2.out
            rw [List.getElem?_eq_none (by omega), List.getElem?_eq_none (by omega)]
        exact ⟨by simp [heq], HQ.out⟩
  · have hb : ((n1 : Int) != (n2 : Int)) = true := by simp; omega
    have HL := Lib.hid hl
    clear hl
    go_enter Tryd.func162, Tryd.ntmps162
    go_wp2
    go_ret
    have hne : xs ≠ ys := fun e => HL.out (by rw [← H1.out, ← H2.out, e])
    exact ⟨by simp [hne], Quiet.refl _⟩

set_option maxRecDepth 100000 in
theorem cloneT_any {S : Nat → Prop} {w : World} {a : Option Addr} {c n : Nat} {xs : List Api.Try} (hn : xs.length = n) (h : Arr S w a xs) (hnil : a = none → c = 0) (hS : ∀ b, S b → b < w.heap.size) (hm : n ≤ 100000000) :
    Calls Tryd.prog 163 #[.slice a n c] w (RetOwn 214 w xs) := by
  have q22 : ∀ (w : World) (a : Option Addr) (n c n' c' : Nat), (binOp .eql 211 (.slice a n c) (.slice none n' c')).run Tryd.prog w = .ok (.bool a.isNone) w := fun w a n c n' c' => Lib.run_eql_slice_nil w _ _ a n c n' c' Tryd.underlying211
  cases a with
  | none =>
    obtain rfl := arr_none h
    go_enter Tryd.func163, Tryd.ntmps163
    go_wp2_with fail
    go_ret
    exact ⟨_, rfl, Own.nil _ _ _ _, Below.refl _ _⟩
  | some ad =>
    have HB : Hid (Own (fun _ => False) (w.alloc (.cells #[] 214)) w.heap.size 214 (.slice (some ⟨w.heap.size, 0, none⟩) 0 0) ([] : List Api.Try)) := own_zero (Nat.le_refl _) box_zero
    have HA : Hid (Arr S (w.alloc (.cells #[] 214)) (some ad) xs) := h.keep (fun b hb => Below.heap_alloc _ _ _ (hS b hb))
    have HN := Lib.hid hn; have HNI := Lib.hid hnil
    clear h hnil hn
    go_enter Tryd.func163, Tryd.ntmps163
    go_wp2_with ((at_builtin; with_reducible refine Tryd.wp_apps211 rfl rfl rfl rfl (HN.out) (HB.out) (HA.out) Tryd.flat211 (HNI.out) (fun _ h => h.elim) (by (simp; omega)) (by first | omega | (simp; omega) | simp) fun v' w' hown' hg' => ?_); have hbw : Below w.heap.size w w' := box_below (n := 0) (c := 0) (by with_unfolding_all exact hg'); have HO := Lib.hid hown'; have HW := Lib.hid hbw; clear hown' hg' hbw)
    go_ret
    exact ⟨_, rfl, by simpa using HO.out, HW.out⟩
end Go.Proofs.YtekofpigmggbbaaDoor.cod

/- code.Check: the walk through a function's orders: its state. -/
namespace Go.Proofs.YtekofpigmggbbaaDoor.cod
open Go.Bk Go.RowKit Go.Proofs.YtekofpigmggbbaaDoor.funs

abbrev Rh := Option Addr × Nat
def rowV (h : Rh) (l : Trs) : Value := .slice h.1 l.length h.2
def rowsV : List Rh → List Trs → List Value
  | h :: hs, l :: ls => rowV h l :: rowsV hs ls
  | _, _ => []
theorem rowsV_at : ∀ {hs : List Rh} {ls : List Trs} {k : Nat} {h : Rh} {l : Trs}, hs[k]? = some h → ls[k]? = some l → (rowsV hs ls)[k]? = some (rowV h l)
  | h :: hs, l :: ls, 0, _, _, e1, e2 => by simp at e1 e2; subst e1 e2; rfl
  | h :: hs, l :: ls, k + 1, _, _, e1, e2 => by
    have := rowsV_at (hs := hs) (ls := ls) (k := k) (by simpa using e1) (by simpa using e2)
    simpa [rowsV] using this
  | [], _, _, _, _, e1, _ => by simp at e1
  | _ :: _, [], _, _, _, _, e2 => by simp at e2
theorem rowsV_set : ∀ {hs : List Rh} {ls : List Trs} (k : Nat) (h : Rh) (l : Trs), hs.length = ls.length → (rowsV hs ls).set k (rowV h l) = rowsV (hs.set k h) (ls.set k l)
  | [], [], _, _, _, _ => rfl
  | _ :: hs, _ :: ls, 0, _, _, _ => rfl
  | _ :: hs, _ :: ls, k + 1, h, l, e => by
    show _ :: (rowsV hs ls).set k _ = _ :: rowsV (hs.set k h) (ls.set k l)
    rw [rowsV_set (hs := hs) (ls := ls) k h l (by simpa using e)]
  | [], _ :: _, _, _, _, e => by simp at e
  | _ :: _, [], _, _, _, e => by simp at e
def todoI (s : WSt) : List Int := s.todo.map fun (a : Nat) => (a : Int)
/-- The walk's struct. -/
abbrev wkC (pa rg : Int) (gn : Bool) (a3 : Option Addr) (nA c3 : Nat) (a4 : Option Addr) (n c4 gs go : Nat) (vT : Value) (bad : Bool) : List Value :=
  [.int .i64 pa, .int .i64 rg, .bool gn, .slice a3 nA c3, .slice a4 n c4, .slice (some ⟨gs, 0, none⟩) n n, .slice (some ⟨go, 0, none⟩) n n, vT, .bool bad]
/-- The state of a walk in memory. -/
structure Wk (B : Nat) (w : World) (g gs go n : Nat) (pa rg : Int) (gn : Bool) (a3 : Option Addr) (nA c3 : Nat) (a4 : Option Addr) (c4 : Nat) (s : WSt) (T : Nat → Prop) (vT : Value) (hs : List Rh) : Prop where
  box : Blk w g 200 (wkC pa rg gn a3 nA c3 a4 n c4 gs go vT s.bad)
  seen : Blk w gs 4 (s.seen.map Value.bool)
  out : Blk w go 211 (rowsV hs s.out)
  hl : hs.length = s.out.length
  rows : ∀ (j : Nat) h l, hs[j]? = some h → s.out[j]? = some l → Arr T w h.1 l ∧ (h.1 = none → h.2 = 0) ∧ l.length ≤ h.2 ∧ h.2 ≤ maxLen
  todo : Go.Bk.Own (fun _ => False) w B 3 vT (todoI s)
  bg : B ≤ g
  bs : B ≤ gs
  bo : B ≤ go
  gsn : g ≠ gs
  gon : g ≠ go
  son : gs ≠ go
  tg : vT.ownBlock ≠ some g
  ts : vT.ownBlock ≠ some gs
  to : vT.ownBlock ≠ some go
  tt : ∀ b, T b → b < w.heap.size ∧ b ≠ g ∧ b ≠ gs ∧ b ≠ go ∧ vT.ownBlock ≠ some b
  ls : s.seen.length = n
  lo : s.out.length = n
theorem own_sameb {α : Type} [Rep α] {w w' : World} {B : Nat} {e : TypeId} {v : Value} {xs : List α} (h : Go.Bk.Own (fun _ => False) w B e v xs) (hs : ∀ b, v.ownBlock = some b → w'.heap[b]? = w.heap[b]?) : Go.Bk.Own (fun _ => False) w' B e v xs := by
  obtain ⟨css, h1, h2, h3, h4⟩ := h
  refine ⟨css, h1, fun k x cs hx hc => Rep.keep (fun _ h => h.elim) (h2 k x cs hx hc), h3, ?_⟩
  rcases h4 with h4 | ⟨g, cap, cur, rfl, k1, k2, k3⟩
  · exact .inl h4
  · exact .inr ⟨g, cap, cur, rfl, k1, (hs g rfl).trans k2, k3⟩
section
variable {B : Nat} {w w2 : World} {g gs go n : Nat} {pa rg : Int} {gn : Bool} {a3 : Option Addr} {nA c3 : Nat} {a4 : Option Addr} {c4 : Nat} {s : WSt} {T : Nat → Prop} {vT vT' : Value} {hs : List Rh}
theorem Wk.keep (h : Wk B w g gs go n pa rg gn a3 nA c3 a4 c4 s T vT hs) (hb : RowKit.Below w.heap.size w w2) : Wk B w2 g gs go n pa rg gn a3 nA c3 a4 c4 s T vT hs :=
  ⟨h.box.keep (hb.block _ h.box.lt), h.seen.keep (hb.block _ h.seen.lt), h.out.keep (hb.block _ h.out.lt), h.hl, fun j x l h1 h2 => ⟨(h.rows j x l h1 h2).1.keep fun b hb' => hb.block b (h.tt b hb').1, (h.rows j x l h1 h2).2⟩, h.todo.below hb (fun _ h => h.elim),
    h.bg, h.bs, h.bo, h.gsn, h.gon, h.son, h.tg, h.ts, h.to, fun b hb' => ⟨Nat.lt_of_lt_of_le (h.tt b hb').1 hb.size, (h.tt b hb').2⟩, h.ls, h.lo⟩
/-- It is bad. -/
theorem Wk.setBad (h : Wk B w g gs go n pa rg gn a3 nA c3 a4 c4 s T vT hs) : Wk B (w.setCell ⟨g, 8, none⟩ (.bool true)) g gs go n pa rg gn a3 nA c3 a4 c4 { s with bad := true } T vT hs := by
  have hg : w.grownBy (w.setCell ⟨g, 8, none⟩ (.bool true)) (some g) := grownBy_setCell (World.grownBy.refl _ _) _ _
  exact ⟨h.box.set 8 _, h.seen.keep (hg.block _ h.seen.lt (fun e => h.gsn (Option.some.inj e).symm)), h.out.keep (hg.block _ h.out.lt (fun e => h.gon (Option.some.inj e).symm)), h.hl,
    fun j x l h1 h2 => ⟨(h.rows j x l h1 h2).1.keep fun b hb' => hg.block b (h.tt b hb').1 (fun e => (h.tt b hb').2.1 (Option.some.inj e)), (h.rows j x l h1 h2).2⟩, h.todo.keep hg (.inr h.tg) (fun _ h => h.elim),
    h.bg, h.bs, h.bo, h.gsn, h.gon, h.son, h.tg, h.ts, h.to, fun b hb' => ⟨Nat.lt_of_lt_of_le (h.tt b hb').1 hg.size, (h.tt b hb').2⟩, h.ls, h.lo⟩
/-- An order is seen, with its tries. -/
theorem Wk.mark (h : Wk B w g gs go n pa rg gn a3 nA c3 a4 c4 s T vT hs) {k : Nat} {x : Rh} {l : Trs} (hx : Arr T w x.1 l ∧ (x.1 = none → x.2 = 0) ∧ l.length ≤ x.2 ∧ x.2 ≤ maxLen)
    (hz : w.heap.size ≤ w2.heap.size) (hoth : ∀ b, b < w.heap.size → b ≠ gs → b ≠ go → w2.heap[b]? = w.heap[b]?) (hbs : Blk w2 gs 4 ((s.seen.map Value.bool).set k (.bool true))) (hbo : Blk w2 go 211 ((rowsV hs s.out).set k (rowV x l))) :
    Wk B w2 g gs go n pa rg gn a3 nA c3 a4 c4 ⟨s.seen.set k true, s.out.set k l, s.todo, s.bad⟩ T vT (hs.set k x) := by
  have hT : ∀ b, T b → w2.heap[b]? = w.heap[b]? := fun b hb' => hoth b (h.tt b hb').1 (h.tt b hb').2.2.1 (h.tt b hb').2.2.2.1
  refine ⟨h.box.keep (hoth _ h.box.lt h.gsn h.gon), by rw [List.map_set]; exact hbs, by rw [← rowsV_set k x l h.hl]; exact hbo, by simp [h.hl], fun j y m h1 h2 => ?_, ?_,
    h.bg, h.bs, h.bo, h.gsn, h.gon, h.son, h.tg, h.ts, h.to, fun b hb' => ⟨Nat.lt_of_lt_of_le (h.tt b hb').1 hz, (h.tt b hb').2⟩, by simp [h.ls], by simp [h.lo]⟩
  · by_cases e : k = j
    · subst e
      rw [List.getElem?_set] at h1 h2
      split at h1
      · rename_i hlt
        split at h1
        · split at h2
          · split at h2
            · obtain rfl := Option.some.inj h1
              obtain rfl := Option.some.inj h2
              exact ⟨hx.1.keep hT, hx.2⟩
            · cases h2
          · rename_i hc; exact absurd rfl hc
        · cases h1
      · rename_i hc; exact absurd rfl hc
    · rw [List.getElem?_set_ne e] at h1 h2
      exact ⟨(h.rows j y m h1 h2).1.keep hT, (h.rows j y m h1 h2).2⟩
  · refine own_sameb h.todo fun b hb => ?_
    exact hoth b (h.todo.lt b hb).2 (fun e => h.ts (by rw [← e]; exact hb)) (fun e => h.to (by rw [← e]; exact hb))
/-- One more is to be done. -/
theorem Wk.push (h : Wk B w g gs go n pa rg gn a3 nA c3 a4 c4 s T vT hs) {k : Nat} (ho : Go.Bk.Own (fun _ => False) w2 B 3 vT' (todoI s ++ [(k : Int)])) (hg : w.grownBy w2 vT.ownBlock) (hst : Stay w vT vT') :
    Wk B (w2.setCell ⟨g, 7, none⟩ vT') g gs go n pa rg gn a3 nA c3 a4 c4 ⟨s.seen, s.out, s.todo ++ [k], s.bad⟩ T vT' hs := by
  have off : ∀ b, b < w.heap.size → vT.ownBlock ≠ some b → vT'.ownBlock ≠ some b := fun b hb hne e => by
    rcases hst b e with e2 | e2
    · exact hne e2
    · omega
  have hg2 : w2.grownBy (w2.setCell ⟨g, 7, none⟩ vT') (some g) := grownBy_setCell (World.grownBy.refl _ _) _ _
  have hb1 := h.box.keep (hg.block _ h.box.lt (fun e => h.tg e.symm))
  have hs1 := h.seen.keep (hg.block _ h.seen.lt (fun e => h.ts e.symm))
  have ho1 := h.out.keep (hg.block _ h.out.lt (fun e => h.to e.symm))
  have hT : ∀ b, T b → (w2.setCell ⟨g, 7, none⟩ vT').heap[b]? = w.heap[b]? := fun b hb' =>
    (hg2.block b (Nat.lt_of_lt_of_le (h.tt b hb').1 hg.size) (fun e => (h.tt b hb').2.1 (Option.some.inj e))).trans (hg.block b (h.tt b hb').1 (fun e => (h.tt b hb').2.2.2.2 e.symm))
  have tg' := off g h.box.lt h.tg
  refine ⟨hb1.set 7 _, hs1.keep (hg2.block _ hs1.lt (fun e => h.gsn (Option.some.inj e).symm)), ho1.keep (hg2.block _ ho1.lt (fun e => h.gon (Option.some.inj e).symm)), h.hl, fun j y m h1 h2 => ⟨(h.rows j y m h1 h2).1.keep hT, (h.rows j y m h1 h2).2⟩, ?_,
    h.bg, h.bs, h.bo, h.gsn, h.gon, h.son, tg', off gs h.seen.lt h.ts, off go h.out.lt h.to, fun b hb' => ⟨Nat.lt_of_lt_of_le (h.tt b hb').1 (Nat.le_trans hg.size hg2.size), (h.tt b hb').2.1, (h.tt b hb').2.2.1, (h.tt b hb').2.2.2.1, off b (h.tt b hb').1 (h.tt b hb').2.2.2.2⟩, h.ls, h.lo⟩
  have := ho.keep hg2 (.inr tg') (fun _ h => h.elim)
  have e : todoI ⟨s.seen, s.out, s.todo ++ [k], s.bad⟩ = todoI s ++ [(k : Int)] := by unfold todoI; simp
  rw [e]
  exact this
end
end Go.Proofs.YtekofpigmggbbaaDoor.cod

/- code.Check: come: walked. -/
namespace Go.Proofs.YtekofpigmggbbaaDoor.cod
open Go.Bk Go.RowKit Go.Proofs.YtekofpigmggbbaaDoor.funs

section
variable {B : Nat} {w w2 : World} {g gs go n : Nat} {pa rg : Int} {gn : Bool} {a3 : Option Addr} {nA c3 : Nat} {a4 : Option Addr} {c4 : Nat} {s : WSt} {T : Nat → Prop} {vT vT' : Value} {hs : List Rh}
/-- A row as the walk has it. -/
structure RowOf (T : Nat → Prop) (w : World) (x : Rh) (l : Trs) : Prop where
  arr : Arr T w x.1 l
  nil : x.1 = none → x.2 = 0
  le : l.length ≤ x.2
  max : x.2 ≤ maxLen
def ComePost (B : Nat) (w : World) (g gs go n : Nat) (pa rg : Int) (gn : Bool) (a3 : Option Addr) (nA c3 : Nat) (a4 : Option Addr) (c4 : Nat) (s : WSt) (T : Nat → Prop) (e : Ending) (w' : World) : Prop :=
  e = .returned (.tuple #[]) ∧ ∃ vT hs, Wk B w' g gs go n pa rg gn a3 nA c3 a4 c4 s T vT hs ∧ RowKit.Below B w w' ∧ ∀ b, T b → w'.heap[b]? = w.heap[b]?
theorem below_st {B g j : Nat} {v : Value} (h : RowKit.Below B w w2) (hg : B ≤ g) : RowKit.Below B w (w2.setCell ⟨g, j, none⟩ v) := h.setCell (p := ⟨g, j, none⟩) hg _
set_option maxRecDepth 100000 in
set_option maxHeartbeats 4000000 in
theorem come_any (h : Wk B w g gs go n pa rg gn a3 nA c3 a4 c4 s T vT hs) {at' : Int} {x : Rh} {l : Trs} {m : Nat} (hx : RowOf T w x l) (hm : l.length = m) (h0 : 0 ≤ at') (hn : n ≤ 1000) (ht : s.todo.length ≤ 1000) (hm2 : m ≤ 1000) :
    Calls Tryd.prog 150 #[.pointer (some ⟨g, 0, none⟩), .int .i64 at', .slice x.1 m x.2] w (ComePost B w g gs go n pa rg gn a3 nA c3 a4 c4 (come n s at' l) T) := by
  have q4 := h.box.cell (j := 4) rfl; have q5 := h.box.cell (j := 5) rfl; have q6 := h.box.cell (j := 6) rfl; have q7 := h.box.cell (j := 7) rfl; have q8 := h.box.cell (j := 8) rfl
  have f8 := h.box.frozen 8
  have hlg := h.box.lt; have hls := h.seen.lt; have hlo := h.out.lt
  have H := Lib.hid h; have HX := Lib.hid hx; have HM := Lib.hid hm
  by_cases hbad : (n : Int) ≤ at' ∨ 20 < m
  · have HC : Hid (come n s at' l = { s with bad := true }) := by show _ = _; unfold come; rw [if_pos (by rw [hm]; exact hbad)]
    rcases (show (n : Int) ≤ at' ∨ (¬ (n : Int) ≤ at' ∧ 20 < m) by omega) with d | ⟨d, d2⟩
    all_goals
      clear h hx hm hbad q5 q6 q7
      go_enter Tryd.func150, Tryd.ntmps150
      go_wp2_with fail
      refine bodyPost_end (results_none rfl _ _ _) rfl ⟨rfl, vT, hs, ?_, below_st (RowKit.Below.refl _ _) H.out.bg, fun b hb => blk_setCell_other _ _ _ (H.out.tt b hb).2.1⟩
      rw [HC.out]
      exact H.out.setBad
  · obtain ⟨k, rfl⟩ : ∃ k : Nat, at' = k := ⟨at'.toNat, by omega⟩
    have hk : k < n := by omega
    have hm20 : m ≤ 20 := by omega
    obtain ⟨sn, hsn⟩ : ∃ b, s.seen[k]? = some b := ⟨_, List.getElem?_eq_getElem (by rw [h.ls]; exact hk)⟩
    obtain ⟨l2, hl2⟩ : ∃ l2, s.out[k]? = some l2 := ⟨_, List.getElem?_eq_getElem (by rw [h.lo]; exact hk)⟩
    obtain ⟨x2, hx2⟩ : ∃ x2, hs[k]? = some x2 := ⟨_, List.getElem?_eq_getElem (by rw [h.hl, h.lo]; exact hk)⟩
    have e1 := h.seen.cell (j := k) (v := .bool sn) (by simp [hsn])
    obtain ⟨m2, hm2'⟩ : ∃ m2, m2 = l2.length := ⟨_, rfl⟩
    have e2 : w.cell? ⟨go, k, none⟩ = some (.slice x2.1 m2 x2.2) := by rw [hm2']; exact h.out.cell (rowsV_at hx2 hl2)
    have fs := h.seen.frozen k
    have e21 : (w.setCell ⟨gs, k, none⟩ (.bool true)).cell? ⟨go, k, none⟩ = some (.slice x2.1 m2 x2.2) := by rw [← e2]; exact World.cell?_of_block (blk_setCell_other _ _ _ h.son.symm)
    have e12 : (w.setCell ⟨go, k, none⟩ (.slice x.1 m x.2)).cell? ⟨gs, k, none⟩ = some (.bool sn) := by rw [← e1]; exact World.cell?_of_block (blk_setCell_other _ _ _ h.son)
    have fo := h.out.frozen k
    have d1 : decide ((n : Int) ≤ (k : Int)) = false := decide_eq_false (by omega)
    have d2 : decide ((20 : Int) < (m : Int)) = false := decide_eq_false (by omega)
    have d3 : (k : Int) < (n : Int) := by omega
    cases sn with
    | false =>
      have HC : Hid (come n s k l = ⟨s.seen.set k true, s.out.set k l, s.todo ++ [k], s.bad⟩) := by
        show _ = _
        unfold come
        rw [if_neg (by rw [hm]; exact hbad)]
        simp only [Int.toNat_natCast, hsn]
      have HMK : Hid (∀ W, (W = ((w.setCell ⟨gs, k, none⟩ (.bool true)).setCell ⟨go, k, none⟩ (.slice x.1 m x.2)).drew ∨ W = ((w.setCell ⟨go, k, none⟩ (.slice x.1 m x.2)).setCell ⟨gs, k, none⟩ (.bool true)).drew) →
          Wk B W g gs go n pa rg gn a3 nA c3 a4 c4 ⟨s.seen.set k true, s.out.set k l, s.todo, s.bad⟩ T vT (hs.set k x) ∧ RowKit.Below B w W ∧ ∀ b, T b → W.heap[b]? = w.heap[b]?) := fun W hW => by
        have hrow : rowV x l = .slice x.1 m x.2 := by rw [← hm]; rfl
        rcases hW with rfl | rfl
        · refine ⟨h.mark ⟨hx.arr, hx.nil, hx.le, hx.max⟩ (by show _ ≤ (World.setCell _ _ _).heap.size; simp) (fun b hb n1 n2 => ?_) ?_ ?_, (below_st (below_st (RowKit.Below.refl _ _) h.bs) h.bo).drew, fun b hb => (blk_setCell_other _ _ _ (h.tt b hb).2.2.2.1).trans (blk_setCell_other _ _ _ (h.tt b hb).2.2.1)⟩
          · exact (blk_setCell_other _ _ _ n2).trans (blk_setCell_other _ _ _ n1)
          · exact (h.seen.set k _).keep (blk_setCell_other _ _ _ h.son)
          · rw [hrow]
            exact (h.out.keep (w' := w.setCell ⟨gs, k, none⟩ (.bool true)) (blk_setCell_other _ _ _ h.son.symm)).set k _
        · refine ⟨h.mark ⟨hx.arr, hx.nil, hx.le, hx.max⟩ (by show _ ≤ (World.setCell _ _ _).heap.size; simp) (fun b hb n1 n2 => ?_) ?_ ?_, (below_st (below_st (RowKit.Below.refl _ _) h.bo) h.bs).drew, fun b hb => (blk_setCell_other _ _ _ (h.tt b hb).2.2.1).trans (blk_setCell_other _ _ _ (h.tt b hb).2.2.2.1)⟩
          · exact (blk_setCell_other _ _ _ n1).trans (blk_setCell_other _ _ _ n2)
          · exact (h.seen.keep (w' := w.setCell ⟨go, k, none⟩ (.slice x.1 m x.2)) (blk_setCell_other _ _ _ h.son)).set k _
          · rw [hrow]
            exact (h.out.set k _).keep (blk_setCell_other _ _ _ h.son.symm)
      clear h hx hm hbad hl2 hx2 hsn
      go_enter Tryd.func150, Tryd.ntmps150
      go_upto_region 3 with fail
      refine wp_region_noPanic ?_
      go_region_law (fail)
      all_goals refine NoPanic.normal ?_
      all_goals
        generalize hW : World.drew _ = W
        obtain ⟨hwk, hbw, htw⟩ := HMK.out W (by first | exact .inl hW.symm | exact .inr hW.symm)
        have HWK := Lib.hid hwk; have HBW := Lib.hid hbw; have HTW := Lib.hid htw
        have p7 := hwk.box.cell (j := 7) rfl
        have hlw := hwk.box.lt
        have HKI : Hid (Rep.cells (α := Int) (fun _ => False) W [.int .i64 (k : Int)] (k : Int)) := ⟨rfl, by unfold I64; omega⟩
        have HTL : Hid ((todoI ⟨s.seen.set k true, s.out.set k l, s.todo, s.bad⟩).length ≤ 1000) := by show _ ≤ _; unfold todoI; simpa using ht
        have HBL : Hid (B ≤ W.heap.size) := Nat.le_trans HWK.out.bg (Nat.le_of_lt hlw)
        clear hW hwk hbw htw q4 q5 q6 q7 q8 f8 fs fo e1 e2 e12 e21 HMK
        go_wp2_with ((at_builtin; with_reducible refine Tryd.wp_appd58 rfl rfl rfl rfl rfl (by first | rfl | simp) (HWK.out.todo) (HKI.out) (fun _ h => h.elim) (by have := HTL.out; omega) (by exact HBL.out) fun v' w' hown' hg' hst' => ?_); obtain ⟨va, vc, hve, -, -, -⟩ := hown'.arr; (obtain ⟨vq, hvq⟩ : ∃ q, q = (todoI ⟨s.seen.set k true, s.out.set k l, s.todo, s.bad⟩ ++ [(k : Int)]).length := ⟨_, rfl⟩); rw [← hvq] at hve; subst hve; clear hvq; have HO := Lib.hid hown'; have HG := Lib.hid hg'; have HS := Lib.hid hst'; have c7' := (Go.Bk.cell_grown (o := 7) hg' hlw HWK.out.tg).trans p7; have f7' := (frozen_grown (o := 7) hg' hlw HWK.out.tg).trans (HWK.out.box.frozen 7); clear hown' hg' hst')
        refine bodyPost_end (results_none rfl _ _ _) rfl ⟨rfl, .slice va vq vc, hs.set k x, ?_, below_st (HBW.out.grown HG.out HBL.out fun r hr => (HWK.out.todo.lt r hr).1) HWK.out.bg, fun b hb => ?_⟩
        · rw [HC.out]
          exact HWK.out.push HO.out HG.out HS.out
        · obtain ⟨t1, t2, t3, t4, t5⟩ := HWK.out.tt b hb
          exact (blk_setCell_other _ _ _ t2).trans ((HG.out.block b t1 (fun e => t5 e.symm)).trans (HTW.out b hb))
    | true =>
      have HC : Hid (come n s k l = if l2 = l then s else { s with bad := true }) := by
        show _ = _
        unfold come
        rw [if_neg (by rw [hm]; exact hbad)]
        simp only [Int.toNat_natCast, hsn, hl2, Option.getD_some]
      obtain ⟨hr1, hr2⟩ := h.rows k x2 l2 hx2 hl2
      have HEQ : Hid (Calls Tryd.prog 162 #[.slice x2.1 m2 x2.2, .slice x.1 m x.2] w fun e w' => e = .returned (.bool (decide (l2 = l))) ∧ Quiet w w') := equalT_any hm2'.symm hm hr1 hx.arr
      have HKQ : Hid (∀ w', Quiet w w' → Wk B w' g gs go n pa rg gn a3 nA c3 a4 c4 s T vT hs ∧ RowKit.Below B w w' ∧ ∀ b, T b → w'.heap[b]? = w.heap[b]?) := fun w' hq => ⟨h.keep (hq.below _), hq.below _, fun b _ => hq.heap b⟩
      clear h hx hm hbad hsn hl2 hx2 hr1 hr2 e12 e21 hm2'
      by_cases he : l2 = l
      · have hd : decide (l2 = l) = true := by simp [he]
        rw [hd] at HEQ
        rw [if_pos he] at HC
        clear he hd
        go_enter Tryd.func150, Tryd.ntmps150
        go_wp2_with (go_at_call 162; refine HEQ.out.mono ?_; rintro e w1 ⟨rfl, hq⟩; have HQ := Lib.hid hq; clear hq)
        refine bodyPost_end (results_none rfl _ _ _) rfl ⟨rfl, vT, hs, ?_, (HKQ.out _ HQ.out).2⟩
        rw [HC.out]
        exact (HKQ.out _ HQ.out).1
      · have hd : decide (l2 = l) = false := by simp [he]
        rw [hd] at HEQ
        rw [if_neg he] at HC
        clear he hd
        go_enter Tryd.func150, Tryd.ntmps150
        go_wp2_with (go_at_call 162; refine HEQ.out.mono ?_; rintro e w1 ⟨rfl, hq⟩; have HQ := Lib.hid (HKQ.out _ hq); have p8 := HQ.out.1.box.cell (j := 8) rfl; have f8' := HQ.out.1.box.frozen 8; clear hq)
        refine bodyPost_end (results_none rfl _ _ _) rfl ⟨rfl, vT, hs, ?_, below_st HQ.out.2.1 HQ.out.1.bg, fun b hb => (blk_setCell_other _ _ _ (HQ.out.1.tt b hb).2.1).trans (HQ.out.2.2 b hb)⟩
        rw [HC.out]
        exact HQ.out.1.setBad
end
end Go.Proofs.YtekofpigmggbbaaDoor.cod

/- code.Check: from: walked. -/
namespace Go.Proofs.YtekofpigmggbbaaDoor.cod
open Go.Bk Go.RowKit Go.Proofs.YtekofpigmggbbaaDoor.funs

/-- What holds of the walk's states. -/
structure Inv (n : Nat) (s : WSt) : Prop where
  ok : WOk n s
  many : many s ≤ n
  few : ∀ l ∈ s.out, l.length ≤ 20
theorem Inv.todo {n : Nat} {s : WSt} (h : Inv n s) : s.todo.length ≤ n := by have := h.many; unfold cod.many at this; omega
theorem Inv.row {n : Nat} {s : WSt} (h : Inv n s) {k : Nat} {l : Trs} (hl : s.out[k]? = some l) : l.length ≤ 20 := h.few l (List.mem_of_getElem? hl)
theorem Inv.come {n : Nat} {s : WSt} (h : Inv n s) {at' : Int} (l : Trs) (h0 : 0 ≤ at') : Inv n (come n s at' l) := by
  have k := come_ok (l := l) h.ok h0
  refine ⟨k.1, Nat.le_trans k.2.1 h.many, fun x hx => ?_⟩
  unfold cod.come at hx
  split at hx
  · exact h.few x hx
  · rename_i hc
    split at hx
    · rcases List.mem_or_eq_of_mem_set hx with hx | rfl
      · exact h.few x hx
      · omega
    · split at hx
      · exact h.few x hx
      · exact h.few x hx
theorem belowN {w w' : World} (h : RowKit.Below w.heap.size w w') (o : Obj) : RowKit.Below w.heap.size w (w'.alloc o) := h.alloc h.size o
theorem belowS {N : Nat} {w w' : World} (h : RowKit.Below N w w') {b j : Nat} (hb : N ≤ b) (v : Value) : RowKit.Below N w (w'.setCell ⟨b, j, none⟩ v) := h.setCell (p := ⟨b, j, none⟩) hb v
theorem own_wider {α : Type} [Rep α] {S : Nat → Prop} {w : World} {B B' : Nat} {e : TypeId} {v : Value} {xs : List α} (h : Go.Bk.Own S w B e v xs) (hB : B' ≤ B) : Go.Bk.Own S w B' e v xs := by
  obtain ⟨css, h1, h2, h3, h4⟩ := h
  refine ⟨css, h1, h2, h3, ?_⟩
  rcases h4 with h4 | ⟨g, cap, cur, e1, hb, h5⟩
  · exact .inl h4
  · exact .inr ⟨g, cap, cur, e1, Nat.le_trans hB hb, h5⟩
theorem arr_try {W : World} {x y : Int} (h1 : I64 x) (h2 : I64 y) : Arr (fun b => b = W.heap.size) (W.alloc (.cells #[.int .i64 x, .int .i64 y] 214)) (some ⟨W.heap.size, 0, none⟩) [(⟨x, y⟩ : Api.Try)] := by
  have hb := blk_new W [.int .i64 x, .int .i64 y] 214
  refine ⟨by simp [maxLen], .inr ⟨W.heap.size, 0, rfl, rfl, fun k z hk => ?_⟩⟩
  have hk0 : k = 0 := by have := (List.getElem?_eq_some_iff.1 hk).1; simp at this; exact this
  subst hk0
  simp at hk
  subst hk
  refine ⟨_, api_Try_cells_mk h1 h2, fun j hj => ?_⟩
  have hj2 : j < 2 := hj
  have : j = 0 ∨ j = 1 := by omega
  rcases this with rfl | rfl
  · exact hb.cell (j := 0) rfl
  · exact hb.cell (j := 1) rfl
theorem RowOf.keep {T : Nat → Prop} {w w' : World} {x : Rh} {l : Trs} (h : RowOf T w x l) (hb : ∀ b, T b → w'.heap[b]? = w.heap[b]?) : RowOf T w' x l := ⟨h.arr.keep hb, h.nil, h.le, h.max⟩
theorem RowOf.more {T T' : Nat → Prop} {w : World} {x : Rh} {l : Trs} (h : RowOf T w x l) (hb : ∀ b, T b → T' b) : RowOf T' w x l := ⟨h.arr.mono hb, h.nil, h.le, h.max⟩
section
variable {B : Nat} {w w2 : World} {g gs go n : Nat} {pa rg : Int} {gn : Bool} {a3 : Option Addr} {nA c3 : Nat} {a4 : Option Addr} {c4 : Nat} {s : WSt} {T : Nat → Prop} {vT vT' : Value} {hs : List Rh}
theorem Wk.more {T' : Nat → Prop} (h : Wk B w g gs go n pa rg gn a3 nA c3 a4 c4 s T vT hs) (hs' : ∀ b, T b → T' b) (ht : ∀ b, T' b → b < w.heap.size ∧ b ≠ g ∧ b ≠ gs ∧ b ≠ go ∧ vT.ownBlock ≠ some b) : Wk B w g gs go n pa rg gn a3 nA c3 a4 c4 s T' vT hs :=
  ⟨h.box, h.seen, h.out, h.hl, fun j x l h1 h2 => ⟨(h.rows j x l h1 h2).1.mono hs', (h.rows j x l h1 h2).2⟩, h.todo, h.bg, h.bs, h.bo, h.gsn, h.gon, h.son, h.tg, h.ts, h.to, ht, h.ls, h.lo⟩
/-- Blocks that are new are none of the walk's. -/
theorem Wk.fresh {T' : Nat → Prop} (h : Wk B w g gs go n pa rg gn a3 nA c3 a4 c4 s T vT hs) (hb : RowKit.Below w.heap.size w w2) (ht : ∀ b, T' b → T b ∨ (w.heap.size ≤ b ∧ b < w2.heap.size)) (hs' : ∀ b, T b → T' b) : Wk B w2 g gs go n pa rg gn a3 nA c3 a4 c4 s T' vT hs := by
  refine (h.keep hb).more hs' fun b hb' => ?_
  rcases ht b hb' with h1 | ⟨h1, h2⟩
  · have := h.tt b h1
    exact ⟨Nat.lt_of_lt_of_le this.1 hb.size, this.2⟩
  · have k1 := h.box.lt; have k2 := h.seen.lt; have k3 := h.out.lt
    exact ⟨h2, by omega, by omega, by omega, fun e => by have := (h.todo.lt b e).2; omega⟩
abbrev insL (i : Api.Ins) : List Value := [.int .i64 i.Op, .int .i64 i.A, .int .i64 i.B, .int .i64 i.C, .int .i64 i.Line]
def FromPost (B : Nat) (w : World) (g gs go n : Nat) (pa rg : Int) (gn : Bool) (a3 : Option Addr) (nA c3 : Nat) (a4 : Option Addr) (c4 : Nat) (s : WSt) (T : Nat → Prop) (e : Ending) (w' : World) : Prop :=
  e = .returned (.tuple #[]) ∧ ∃ vT hs T', (∀ b, T b → T' b) ∧ Wk B w' g gs go n pa rg gn a3 nA c3 a4 c4 s T' vT hs ∧ RowKit.Below B w w'
set_option maxRecDepth 100000 in
set_option maxHeartbeats 1000000 in
theorem from_any {C : Nat → Prop} (h : Wk B w g gs go n pa rg gn a3 nA c3 a4 c4 s T vT hs) {code : List Api.Ins} (hc : Arr C w a4 code) (hC : ∀ b, C b → b < B) (hcl : code.length = n) (hI : Inv n s) (hA : Aims code) {k : Nat} (hk : k < n) (hn : n ≤ 1000) :
    Calls Tryd.prog 151 #[.pointer (some ⟨g, 0, none⟩), .int .i64 k] w (FromPost B w g gs go n pa rg gn a3 nA c3 a4 c4 (from' code s k) T) := by
  obtain ⟨i, hi⟩ : ∃ i, code[k]? = some i := ⟨_, List.getElem?_eq_getElem (by omega)⟩
  obtain ⟨l, hl⟩ : ∃ l, s.out[k]? = some l := ⟨_, List.getElem?_eq_getElem (by rw [h.lo]; exact hk)⟩
  obtain ⟨x, hx⟩ : ∃ x, hs[k]? = some x := ⟨_, List.getElem?_eq_getElem (by rw [h.hl, h.lo]; exact hk)⟩
  obtain ⟨m, hm⟩ : ∃ m, m = l.length := ⟨_, rfl⟩
  have hm20 : m ≤ 20 := by rw [hm]; exact hI.row hl
  have q4 := h.box.cell (j := 4) rfl; have q6 := h.box.cell (j := 6) rfl
  have e2 : w.cell? ⟨go, k, none⟩ = some (.slice x.1 m x.2) := by rw [hm]; exact h.out.cell (rowsV_at hx hl)
  have hrow : RowOf T w x l := by obtain ⟨r1, r2, r3, r4⟩ := h.rows k x l hx hl; exact ⟨r1, r2, r3, r4⟩
  obtain ⟨bc, oc, rfl, hSb, y0, y1, y2, y3, y4, i0, i1, i2, i3, i4⟩ := api_Ins_elem hc hi
  have hlg := h.box.lt; have hlo := h.out.lt
  have hlb : bc < w.heap.size := by have := hC bc hSb; have := h.bg; omega
  have d3 : (k : Int) < (n : Int) := by omega
  have HS : Hid (∀ w', RowKit.Below w.heap.size w w' → w'.cell? ⟨g, 4, none⟩ = some (.slice (some ⟨bc, oc, none⟩) n c4) ∧ w'.cell? ⟨g, 6, none⟩ = some (.slice (some ⟨go, 0, none⟩) n n) ∧ w'.cell? ⟨go, k, none⟩ = some (.slice x.1 m x.2) ∧ w'.cell? ⟨bc, oc + k * 5, none⟩ = some (.int .i64 i.Op) ∧ w'.cell? ⟨bc, oc + k * 5 + 1, none⟩ = some (.int .i64 i.A) ∧ w'.cell? ⟨bc, oc + k * 5 + 2, none⟩ = some (.int .i64 i.B) ∧ w'.cell? ⟨bc, oc + k * 5 + 3, none⟩ = some (.int .i64 i.C) ∧ w'.cell? ⟨bc, oc + k * 5 + 4, none⟩ = some (.int .i64 i.Line)) := fun w' hb => by
    have hg := fun o => World.cell?_of_block (a := ⟨g, o, none⟩) (hb.block g hlg)
    have ho := fun o => World.cell?_of_block (a := ⟨go, o, none⟩) (hb.block go hlo)
    have hc := fun o => World.cell?_of_block (a := ⟨bc, o, none⟩) (hb.block bc hlb)
    exact ⟨(hg _).trans q4, (hg _).trans q6, (ho _).trans e2, (hc _).trans y0, (hc _).trans y1, (hc _).trans y2, (hc _).trans y3, (hc _).trans y4⟩
  have H := Lib.hid h
  have HF : Hid (from' code s k = if i.Op = 28 ∨ i.Op = 29 then s
    else if i.Op = 13 ∨ i.Op = 14 then come n s i.A l
    else if i.Op = 15 then come n (come n s i.B l) (k + 1) l
    else if i.Op = 30 then come n (come n s i.B l) (k + 1) (l ++ [⟨i.A, i.B⟩])
    else if i.Op = 31 then if l = [] then { s with bad := true } else come n s (k + 1) l.dropLast
    else come n s (k + 1) l) := by
    show _ = _
    unfold from'
    rw [hi]
    simp only [hl, hcl, Option.getD_some]
  have HW0 : Hid (∀ W, W = (w.alloc (.cells #[.int .i64 i.Op, .int .i64 i.A, .int .i64 i.B, .int .i64 i.C, .int .i64 i.Line] 172)).drew →
      Wk B W g gs go n pa rg gn a3 nA c3 (some ⟨bc, oc, none⟩) c4 s (fun b => T b ∨ b = w.heap.size) vT hs ∧ RowKit.Below w.heap.size w W ∧ Blk W w.heap.size 172 (insL i) ∧ RowOf (fun b => T b ∨ b = w.heap.size) W x l) := fun W hW => by
    subst hW
    have hb : RowKit.Below w.heap.size w (w.alloc (.cells #[.int .i64 i.Op, .int .i64 i.A, .int .i64 i.B, .int .i64 i.C, .int .i64 i.Line] 172)).drew := (belowN (RowKit.Below.refl _ _) _).drew
    refine ⟨h.fresh hb (fun b hb => ?_) (fun b hb => .inl hb), hb, blk_new w (insL i) 172, (hrow.keep fun b hb' => hb.block b (h.tt b hb').1).more fun b hb => .inl hb⟩
    rcases hb with hb | rfl
    · exact .inl hb
    · refine .inr ⟨Nat.le_refl _, ?_⟩
      show _ < (World.alloc _ _).heap.size
      simp
  have HAI := Lib.hid (hA k i hi)
  have HI := Lib.hid hI
  have HM := Lib.hid hm.symm
  clear h hc hA hi hl hx hI hcl hrow
  go_enter Tryd.func151, Tryd.ntmps151
  go_upto_region 0 with fail
  have HCM : Hid (∀ (W : World) (s' : WSt) (T' : Nat → Prop) (vT' : Value) (hs' : List Rh), Wk B W g gs go n pa rg gn a3 nA c3 (some ⟨bc, oc, none⟩) c4 s' T' vT' hs' → Inv n s' → ∀ (at' : Int) (x : Rh) (l : Trs) (m : Nat), RowOf T' W x l → l.length = m → 0 ≤ at' → m ≤ 1000 →
      Calls Tryd.prog 150 #[.pointer (some ⟨g, 0, none⟩), .int .i64 at', .slice x.1 m x.2] W (ComePost B W g gs go n pa rg gn a3 nA c3 (some ⟨bc, oc, none⟩) c4 (come n s' at' l) T')) := fun W s' T' vT' hs' h1 h2 at' x l m h3 h4 h5 h6 => come_any h1 h3 h4 h5 hn (Nat.le_trans h2.todo hn) h6
  clear hm
  go_region_held3 (fun w' => w'.cell? ⟨g, 4, none⟩ = some (.slice (some ⟨bc, oc, none⟩) n c4) ∧ w'.cell? ⟨g, 6, none⟩ = some (.slice (some ⟨go, 0, none⟩) n n) ∧ w'.cell? ⟨go, k, none⟩ = some (.slice x.1 m x.2) ∧ w'.cell? ⟨bc, oc + k * 5, none⟩ = some (.int .i64 i.Op) ∧ w'.cell? ⟨bc, oc + k * 5 + 1, none⟩ = some (.int .i64 i.A) ∧ w'.cell? ⟨bc, oc + k * 5 + 2, none⟩ = some (.int .i64 i.B) ∧ w'.cell? ⟨bc, oc + k * 5 + 3, none⟩ = some (.int .i64 i.C) ∧ w'.cell? ⟨bc, oc + k * 5 + 4, none⟩ = some (.int .i64 i.Line))
    (first
      | exact ⟨q4, q6, e2, y0, y1, y2, y3, y4⟩
      | exact HS.out _ (by repeat (first | exact RowKit.Below.refl _ _ | refine belowN ?_ _ | refine belowS ?_ (by simp) _ | refine RowKit.Below.drew ?_)))
    (fail)
  generalize hW : World.drew _ = W0
  obtain ⟨hwk, hbw, hbk, hrw⟩ := HW0.out W0 hW.symm
  have z0 := hbk.cell (j := 0) rfl; have z1 := hbk.cell (j := 1) rfl; have z2 := hbk.cell (j := 2) rfl
  have hzl := hbk.lt
  have HWK := Lib.hid hwk; have HBW := Lib.hid hbw; have HBK := Lib.hid hbk; have HRW := Lib.hid hrw
  have HBB : Hid (RowKit.Below B w W0) := hbw.mono (Nat.le_trans HWK.out.bg (Nat.le_of_lt hlg))
  clear hW hwk hbw hbk hrw HW0 HS q4 q6 e2 y0 y1 y2 y3 y4
  have HTS : Hid (∀ b, T b → (T b ∨ b = w.heap.size)) := fun b hb => .inl hb
  by_cases o1 : i.Op = 28 ∨ i.Op = 29
  · rw [if_pos o1] at HF
    rcases (show i.Op = 28 ∨ (¬ i.Op = 28 ∧ i.Op = 29) by omega) with o2 | ⟨o2, o3⟩
    all_goals
      go_wp2_with fail
      refine bodyPost_end (results_none rfl _ _ _) rfl ⟨rfl, vT, hs, _, HTS.out, (by rw [HF.out]; exact HWK.out), HBB.out⟩
  rw [if_neg o1] at HF
  have n28 : (i.Op == 28) = false := by simp; omega
  have n29 : (i.Op == 29) = false := by simp; omega
  clear o1
  by_cases o1 : i.Op = 13 ∨ i.Op = 14
  · rw [if_pos o1] at HF
    have HA0 := Lib.hid (HAI.out.1 o1)
    rcases (show i.Op = 13 ∨ (¬ i.Op = 13 ∧ i.Op = 14) by omega) with o2 | ⟨o2, o3⟩
    all_goals
      go_wp2_with (go_at_call 150; refine (HCM.out _ _ _ _ _ HWK.out HI.out _ _ _ _ HRW.out HM.out HA0.out (by omega)).mono ?_; rintro e w1 ⟨rfl, vT1, hs1, hwk1, hbw1, htw1⟩; have HWK1 := Lib.hid hwk1; have HBW1 := Lib.hid hbw1; clear hwk1 hbw1 htw1)
      refine bodyPost_end (results_none rfl _ _ _) rfl ⟨rfl, vT1, hs1, _, HTS.out, (by rw [HF.out]; exact HWK1.out), HBB.out.trans HBW1.out⟩
  rw [if_neg o1] at HF
  have n13 : (i.Op == 13) = false := by simp; omega
  have n14 : (i.Op == 14) = false := by simp; omega
  clear o1
  have wk : IntKind.i64.wrap ((k : Int) + 1) = (k : Int) + 1 := by rw [IntKind.wrap_i64]; omega
  by_cases o15 : i.Op = 15
  · rw [if_pos o15] at HF
    have HA0 := Lib.hid (HAI.out.2 (.inl o15))
    have HI1 : Hid (Inv n (come n s i.B l)) := HI.out.come l HA0.out
    go_wp2_with (first
      | (go_at_call 150; refine (HCM.out _ _ _ _ _ HWK1.out HI1.out _ _ _ _ HRW1.out HM.out (by omega) (by omega)).mono ?_; rintro e w2 ⟨rfl, vT2, hs2, hwk2, hbw2, htw2⟩; have HWK2 := Lib.hid hwk2; have HBW2 := Lib.hid hbw2; clear hwk2 hbw2 htw2)
      | (go_at_call 150; refine (HCM.out _ _ _ _ _ HWK.out HI.out _ _ _ _ HRW.out HM.out HA0.out (by omega)).mono ?_; rintro e w1 ⟨rfl, vT1, hs1, hwk1, hbw1, htw1⟩; have HWK1 := Lib.hid hwk1; have HBW1 := Lib.hid hbw1; have HRW1 := Lib.hid (HRW.out.keep htw1); clear hwk1 hbw1 htw1))
    refine bodyPost_end (results_none rfl _ _ _) rfl ⟨rfl, vT2, hs2, _, HTS.out, (by rw [HF.out]; exact HWK2.out), (HBB.out.trans HBW1.out).trans HBW2.out⟩
  rw [if_neg o15] at HF
  have n15 : (i.Op == 15) = false := by simp; omega
  clear o15
  by_cases o30 : i.Op = 30
  · rw [if_pos o30] at HF
    have HA0 := Lib.hid (HAI.out.2 (.inr o30))
    have HI1 : Hid (Inv n (come n s i.B l)) := HI.out.come l HA0.out
    have hzo : w.heap.size = w.heap.size := rfl
    go_upto_region 11 with (go_at_call 150; refine (HCM.out _ _ _ _ _ HWK.out HI.out _ _ _ _ HRW.out HM.out HA0.out (by omega)).mono ?_; rintro e w1 ⟨rfl, vT1, hs1, hwk1, hbw1, htw1⟩; have HWK1 := Lib.hid hwk1; have HBW1 := Lib.hid hbw1; have HRW1 := Lib.hid (HRW.out.keep htw1); have HBK1 := Lib.hid (HBK.out.keep (htw1 _ (.inr rfl))); clear hwk1 hbw1 htw1)
    have q1 := HBK1.out.cell (j := 1) rfl; have q2 := HBK1.out.cell (j := 2) rfl
    have hgb1 : w.heap.size < w1.heap.size := HBK1.out.lt
    have HARN : Hid (∀ W : World, Arr (fun b => b = W.heap.size) (W.alloc (.cells #[.int .i64 i.A, .int .i64 i.B] 214)) (some ⟨W.heap.size, 0, none⟩) [(⟨i.A, i.B⟩ : Api.Try)]) := fun W => arr_try i1 i2
    have HCB : Hid (∀ W', RowKit.Below w1.heap.size w1 W' → Calls Tryd.prog 163 #[.slice x.1 m x.2] W' (RetOwn 214 W' l)) := fun W' hb =>
      cloneT_any HM.out (HRW1.out.arr.keep fun b hb' => hb.block b (HWK1.out.tt b hb').1) HRW1.out.nil (fun b hb' => Nat.lt_of_lt_of_le (HWK1.out.tt b hb').1 hb.size) (by omega)
    have HCL : Hid (Calls Tryd.prog 163 #[.slice x.1 m x.2] w1.drew fun e w2 => ∃ v2, e = .returned v2 ∧ Go.Bk.Own (fun _ => False) w2 w1.heap.size 214 v2 l ∧ RowKit.Below w1.heap.size w1 w2 ∧ w2.cell? ⟨w.heap.size, 1, none⟩ = some (.int .i64 i.A) ∧ w2.cell? ⟨w.heap.size, 2, none⟩ = some (.int .i64 i.B)) := by
      refine (HCB.out w1.drew (RowKit.Below.refl _ _).drew).mono ?_
      rintro e w2 ⟨v2, rfl, h1, h2⟩
      exact ⟨v2, rfl, h1, (RowKit.Below.refl _ _).drew.trans h2, (World.cell?_of_block (a := ⟨w.heap.size, 1, none⟩) (h2.block _ hgb1)).trans q1, (World.cell?_of_block (a := ⟨w.heap.size, 2, none⟩) (h2.block _ hgb1)).trans q2⟩
    have HCA : Hid (Calls Tryd.prog 163 #[.slice x.1 m x.2] (w1.drew.alloc (.cells #[.int .i64 i.A, .int .i64 i.B] 214)) fun e w2 => ∃ v2, e = .returned v2 ∧ Go.Bk.Own (fun _ => False) w2 w1.heap.size 214 v2 l ∧ RowKit.Below w1.heap.size w1 w2 ∧ Arr (fun b => b = w1.heap.size) w2 (some ⟨w1.heap.size, 0, none⟩) [(⟨i.A, i.B⟩ : Api.Try)]) := by
      have hb1 : RowKit.Below w1.heap.size w1 (w1.drew.alloc (.cells #[.int .i64 i.A, .int .i64 i.B] 214)) := belowN (RowKit.Below.refl _ _).drew _
      refine (HCB.out _ hb1).mono ?_
      rintro e w2 ⟨v2, rfl, h1, h2⟩
      have hz : (w1.drew.alloc (.cells #[.int .i64 i.A, .int .i64 i.B] 214)).heap.size = w1.heap.size + 1 := by show _ = w1.drew.heap.size + 1; simp
      refine ⟨v2, rfl, own_wider h1 (by omega), hb1.trans (h2.mono (by omega)), (HARN.out w1.drew).keep fun b hb => ?_⟩
      subst hb
      exact h2.block _ (by omega)
    have HEND : Hid (∀ (Wx w5 : World) (v2 v5 : Value), RowKit.Below w1.heap.size w1 Wx → Go.Bk.Own (fun _ => False) Wx w1.heap.size 214 v2 l → Wx.grownBy w5 v2.ownBlock → Go.Bk.Own (fun _ => False) w5 w1.heap.size 214 v5 (l ++ [⟨i.A, i.B⟩]) →
        ∃ (y : Rh) (T2 : Nat → Prop), v5 = .slice y.1 (m + 1) y.2 ∧ (∀ b, T b → T2 b) ∧ Wk B w5 g gs go n pa rg gn a3 nA c3 (some ⟨bc, oc, none⟩) c4 (come n s i.B l) T2 vT1 hs1 ∧ RowOf T2 w5 y (l ++ [⟨i.A, i.B⟩]) ∧ RowKit.Below B w w5) := fun Wx w5 v2 v5 h1 h2 h3 h4 => by
      have hb : RowKit.Below w1.heap.size w1 w5 := h1.grown h3 h1.size fun r hr => (h2.lt r hr).1
      obtain ⟨a5, c5, rfl, k1, k2, k3, k4⟩ := h4.arrC
      have hl : (l ++ [(⟨i.A, i.B⟩ : Api.Try)]).length = m + 1 := by rw [List.length_append, HM.out]; rfl
      rw [hl] at k1 ⊢
      refine ⟨(a5, c5), fun b => (T b ∨ b = w.heap.size) ∨ (w1.heap.size ≤ b ∧ b < w5.heap.size), rfl, fun b hb => .inl (.inl hb), HWK1.out.fresh hb (fun b hb => hb) (fun b hb => .inl hb), ⟨k4.mono fun b hb => .inr (by rcases hb with hb | hb; exact hb.elim; exact hb), k2, by rw [hl]; exact k1, k3⟩, ?_⟩
      exact (HBB.out.trans HBW1.out).trans (hb.mono (Nat.le_trans HWK1.out.bg (Nat.le_of_lt HWK1.out.box.lt)))
    have HE33 : Hid (∀ args w, (callFunc 163 args).run Tryd.prog w = .ok (.enter 163 args) w) := Tryd.call163
    refine wp_region_noPanic ?_
    go_region_law (first
        | (refine step_call (f := 163) (vs := #[.slice x.1 m x.2]) rfl rfl (by simp [Act.eval, Act.put]) HE33.out HCL.out fun e w2 hp => ?_
           obtain ⟨v2, rfl, ho, hb, t1, t2⟩ := hp
           refine ⟨_, rfl, ?_⟩
           have HB2 := Lib.hid hb
           have HO2 := Lib.hid ho
           clear hb ho)
        | (refine step_call (f := 163) (vs := #[.slice x.1 m x.2]) rfl rfl (by simp [Act.eval, Act.put]) HE33.out HCA.out fun e w2 hp => ?_
           obtain ⟨v2, rfl, ho, hb, har⟩ := hp
           refine ⟨_, rfl, ?_⟩
           have HB2 := Lib.hid hb
           have HO2 := Lib.hid ho
           have HAR := Lib.hid har
           clear hb ho har)
        | (refine step_of_list rfl fun Q' hQ => ?_
           refine Tryd.wp_apps211 rfl rfl rfl rfl rfl HO2.out HAR.out Tryd.flat211 (fun h => by cases h) (fun _ h => h.elim) (by rw [HM.out]; omega) HB2.out.size fun v5 w5 ho5 hg5 => ?_
           have HEN := Lib.hid (HEND.out _ _ _ _ HB2.out HO2.out hg5 ho5)
           refine (hQ _ _).2 ?_
           clear hQ Q' ho5 hg5)
        | (refine step_of_list rfl fun Q' hQ => ?_
           refine Tryd.wp_apps211 rfl rfl rfl rfl rfl (HO2.out.alloc _ (fun _ h => h.elim)) (HARN.out w2) Tryd.flat211 (fun h => by cases h) (fun _ h => h.elim) (by rw [HM.out]; omega) (belowN HB2.out _).size fun v5 w5 ho5 hg5 => ?_
           have HEN := Lib.hid (HEND.out _ _ _ _ (belowN HB2.out _) (HO2.out.alloc _ (fun _ h => h.elim)) hg5 ho5)
           refine (hQ _ _).2 ?_
           clear hQ Q' ho5 hg5))
    all_goals refine NoPanic.normal ?_
    all_goals
      obtain ⟨y, T2, rfl, ht2, hwk5, hrw5, hb5⟩ := HEN.out
      have HWK5 := Lib.hid hwk5; have HRW5 := Lib.hid hrw5; have HB5 := Lib.hid hb5; have HT2 := Lib.hid ht2
      have HM5 : Hid ((l ++ [(⟨i.A, i.B⟩ : Api.Try)]).length = m + 1) := by show _ = _; rw [List.length_append, HM.out]; rfl
      clear HEN hwk5 hrw5 hb5 ht2 HEND
      go_wp2_with (go_at_call 150; refine (HCM.out _ _ _ _ _ HWK5.out HI1.out _ _ _ _ HRW5.out HM5.out (by omega) (by omega)).mono ?_; rintro e w6 ⟨rfl, vT6, hs6, hwk6, hbw6, htw6⟩; have HWK6 := Lib.hid hwk6; have HBW6 := Lib.hid hbw6; clear hwk6 hbw6 htw6)
      refine bodyPost_end (results_none rfl _ _ _) rfl ⟨rfl, vT6, hs6, _, HT2.out, (by rw [HF.out]; exact HWK6.out), HB5.out.trans HBW6.out⟩
  rw [if_neg o30] at HF
  have n30 : (i.Op == 30) = false := by simp; omega
  clear o30
  by_cases o31 : i.Op = 31
  · rw [if_pos o31] at HF
    by_cases hz : l = []
    · rw [if_pos hz] at HF
      have hm0 : m = 0 := by rw [← HM.out, hz]; rfl
      subst hm0
      have f8 := HWK.out.box.frozen 8
      have p8 := HWK.out.box.cell (j := 8) rfl
      have hlgw := HWK.out.box.lt
      clear hz
      go_wp2_with fail
      refine bodyPost_end (results_none rfl _ _ _) rfl ⟨rfl, vT, hs, _, HTS.out, (by rw [HF.out]; exact HWK.out.setBad), below_st HBB.out HWK.out.bg⟩
    · rw [if_neg hz] at HF
      have hm0 : 0 < m := by rw [← HM.out]; exact List.length_pos_iff.2 hz
      have d0 : ((m : Int) == 0) = false := by simp; omega
      have wm : IntKind.i64.wrap ((m : Int) - 1) = ((m - 1 : Nat) : Int) := by rw [IntKind.wrap_i64]; omega
      have hsl : ∀ w' : World, (Instr.slice 211 (.slice x.1 m x.2) none (some (.int .i64 ((m - 1 : Nat) : Int))) none).run Tryd.prog w' = .ok (.slice x.1 (m - 1) x.2) w' := fun w' =>
        run_slice_head (z := 2) Tryd.underlying211 (by kernel_rfl) _ m x.2 (m - 1) (by have := HRW.out.le; have := HM.out; omega) w'
      have HRD : Hid (RowOf (fun b => T b ∨ b = w.heap.size) W0 x l.dropLast) := ⟨by rw [List.dropLast_eq_take]; exact HRW.out.arr.take _, HRW.out.nil, by have := HRW.out.le; rw [List.length_dropLast]; omega, HRW.out.max⟩
      have HMD : Hid (l.dropLast.length = m - 1) := by show _ = _; rw [List.length_dropLast, HM.out]
      clear hz
      go_wp2_with (go_at_call 150; refine (HCM.out _ _ _ _ _ HWK.out HI.out _ _ _ _ HRD.out HMD.out (by omega) (by omega)).mono ?_; rintro e w1 ⟨rfl, vT1, hs1, hwk1, hbw1, htw1⟩; have HWK1 := Lib.hid hwk1; have HBW1 := Lib.hid hbw1; clear hwk1 hbw1 htw1)
      refine bodyPost_end (results_none rfl _ _ _) rfl ⟨rfl, vT1, hs1, _, HTS.out, (by rw [HF.out]; exact HWK1.out), HBB.out.trans HBW1.out⟩
  rw [if_neg o31] at HF
  have n31 : (i.Op == 31) = false := by simp; omega
  clear o31
  go_wp2_with (go_at_call 150; refine (HCM.out _ _ _ _ _ HWK.out HI.out _ _ _ _ HRW.out HM.out (by omega) (by omega)).mono ?_; rintro e w1 ⟨rfl, vT1, hs1, hwk1, hbw1, htw1⟩; have HWK1 := Lib.hid hwk1; have HBW1 := Lib.hid hbw1; clear hwk1 hbw1 htw1)
  refine bodyPost_end (results_none rfl _ _ _) rfl ⟨rfl, vT1, hs1, _, HTS.out, (by rw [HF.out]; exact HWK1.out), HBB.out.trans HBW1.out⟩
end
end Go.Proofs.YtekofpigmggbbaaDoor.cod
