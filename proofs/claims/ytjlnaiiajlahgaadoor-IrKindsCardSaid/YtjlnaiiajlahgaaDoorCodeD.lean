/- code.Check: come: walked. -/
import Derived.Test.YtjlnaiiajlahgaaDoorCodeC
import Derived.Deep.RegionLaw
import Derived.Deep.RegionHeld3
set_option linter.unusedVariables false
set_option linter.unusedSimpArgs false
namespace Go.Proofs.YtjlnaiiajlahgaaDoor.cod
open Go.Bk Go.RowKit Go.Proofs.YtjlnaiiajlahgaaDoor.funs

section
variable {B : Nat} {w w2 : World} {g gs go n : Nat} {pa rg : Int} {gn : Bool} {a3 : Option Addr} {nA c3 : Nat} {a4 : Option Addr} {c4 : Nat} {s : WSt} {T : Nat → Prop} {vT vT' : Value} {hs : List Rh}
/-- A row as the walk has it. -/
structure RowOf (T : Nat → Prop) (w : World) (x : Rh) (l : Trs) : Prop where
  arr : Arr T w x.1 l
  nil : x.1 = none → x.2 = 0
  le : l.length ≤ x.2
  max : x.2 ≤ maxLen
def ComePost (B : Nat) (w : World) (g gs go n : Nat) (pa rg : Int) (gn : Bool) (a3 : Option Addr) (nA c3 : Nat) (a4 : Option Addr) (c4 : Nat) (s : WSt) (T : Nat → Prop) (e : Ending) (w' : World) : Prop :=
  e = .returned (.tuple #[]) ∧ ∃ vT hs, Wk B w' g gs go n pa rg gn a3 nA c3 a4 c4 s T vT hs ∧ RowKit.Below B w w' ∧ ∀ b, T b → w'.heap[b]? = w.heap[b]?
theorem below_st {B g j : Nat} {v : Value} (h : RowKit.Below B w w2) (hg : B ≤ g) : RowKit.Below B w (w2.setCell ⟨g, j, none⟩ v) := h.setCell (p := ⟨g, j, none⟩) hg _
set_option maxRecDepth 100000 in
set_option maxHeartbeats 4000000 in
theorem come_any (h : Wk B w g gs go n pa rg gn a3 nA c3 a4 c4 s T vT hs) {at' : Int} {x : Rh} {l : Trs} {m : Nat} (hx : RowOf T w x l) (hm : l.length = m) (h0 : 0 ≤ at') (hn : n ≤ 1000) (ht : s.todo.length ≤ 1000) (hm2 : m ≤ 1000) :
    Calls Tryd.prog 118 #[.pointer (some ⟨g, 0, none⟩), .int .i64 at', .slice x.1 m x.2] w (ComePost B w g gs go n pa rg gn a3 nA c3 a4 c4 (come n s at' l) T) := by
  have q4 := h.box.cell (j := 4) rfl; have q5 := h.box.cell (j := 5) rfl; have q6 := h.box.cell (j := 6) rfl; have q7 := h.box.cell (j := 7) rfl; have q8 := h.box.cell (j := 8) rfl
  have f8 := h.box.frozen 8
  have hlg := h.box.lt; have hls := h.seen.lt; have hlo := h.out.lt
  have H := Lib.hid h; have HX := Lib.hid hx; have HM := Lib.hid hm
  by_cases hbad : (n : Int) ≤ at' ∨ 20 < m
  · have HC : Hid (come n s at' l = { s with bad := true }) := by show _ = _; unfold come; rw [if_pos (by rw [hm]; exact hbad)]
    rcases (show (n : Int) ≤ at' ∨ (¬ (n : Int) ≤ at' ∧ 20 < m) by omega) with d | ⟨d, d2⟩
    all_goals
      clear h hx hm hbad q5 q6 q7
      go_enter Tryd.func118, Tryd.ntmps118
      go_wp2_with fail
      refine bodyPost_end (results_none rfl _ _ _) rfl ⟨rfl, vT, hs, ?_, below_st (RowKit.Below.refl _ _) H.out.bg, fun b hb => blk_setCell_other _ _ _ (H.out.tt b hb).2.1⟩
      rw [HC.out]
      exact H.out.setBad
  · obtain ⟨k, rfl⟩ : ∃ k : Nat, at' = k := ⟨at'.toNat, by omega⟩
    have hk : k < n := by omega
    have hm20 : m ≤ 20 := by omega
    obtain ⟨sn, hsn⟩ : ∃ b, s.seen[k]? = some b := ⟨_, List.getElem?_eq_getElem (by rw [h.ls]; exact hk)⟩
    obtain ⟨l2, hl2⟩ : ∃ l2, s.out[k]? = some l2 := ⟨_, List.getElem?_eq_getElem (by rw [h.lo]; exact hk)⟩
    obtain ⟨x2, hx2⟩ : ∃ x2, hs[k]? = some x2 := ⟨_, List.getElem?_eq_getElem (by rw [h.hl, h.lo]; exact hk)⟩
    have e1 := h.seen.cell (j := k) (v := .bool sn) (by simp [hsn])
    obtain ⟨m2, hm2'⟩ : ∃ m2, m2 = l2.length := ⟨_, rfl⟩
    have e2 : w.cell? ⟨go, k, none⟩ = some (.slice x2.1 m2 x2.2) := by rw [hm2']; exact h.out.cell (rowsV_at hx2 hl2)
    have fs := h.seen.frozen k
    have e21 : (w.setCell ⟨gs, k, none⟩ (.bool true)).cell? ⟨go, k, none⟩ = some (.slice x2.1 m2 x2.2) := by rw [← e2]; exact World.cell?_of_block (blk_setCell_other _ _ _ h.son.symm)
    have e12 : (w.setCell ⟨go, k, none⟩ (.slice x.1 m x.2)).cell? ⟨gs, k, none⟩ = some (.bool sn) := by rw [← e1]; exact World.cell?_of_block (blk_setCell_other _ _ _ h.son)
    have fo := h.out.frozen k
    have d1 : decide ((n : Int) ≤ (k : Int)) = false := decide_eq_false (by omega)
    have d2 : decide ((20 : Int) < (m : Int)) = false := decide_eq_false (by omega)
    have d3 : (k : Int) < (n : Int) := by omega
    cases sn with
    | false =>
      have HC : Hid (come n s k l = ⟨s.seen.set k true, s.out.set k l, s.todo ++ [k], s.bad⟩) := by
        show _ = _
        unfold come
        rw [if_neg (by rw [hm]; exact hbad)]
        simp only [Int.toNat_natCast, hsn]
      have HMK : Hid (∀ W, (W = ((w.setCell ⟨gs, k, none⟩ (.bool true)).setCell ⟨go, k, none⟩ (.slice x.1 m x.2)).drew ∨ W = ((w.setCell ⟨go, k, none⟩ (.slice x.1 m x.2)).setCell ⟨gs, k, none⟩ (.bool true)).drew) →
          Wk B W g gs go n pa rg gn a3 nA c3 a4 c4 ⟨s.seen.set k true, s.out.set k l, s.todo, s.bad⟩ T vT (hs.set k x) ∧ RowKit.Below B w W ∧ ∀ b, T b → W.heap[b]? = w.heap[b]?) := fun W hW => by
        have hrow : rowV x l = .slice x.1 m x.2 := by rw [← hm]; rfl
        rcases hW with rfl | rfl
        · refine ⟨h.mark ⟨hx.arr, hx.nil, hx.le, hx.max⟩ (by show _ ≤ (World.setCell _ _ _).heap.size; simp) (fun b hb n1 n2 => ?_) ?_ ?_, (below_st (below_st (RowKit.Below.refl _ _) h.bs) h.bo).drew, fun b hb => (blk_setCell_other _ _ _ (h.tt b hb).2.2.2.1).trans (blk_setCell_other _ _ _ (h.tt b hb).2.2.1)⟩
          · exact (blk_setCell_other _ _ _ n2).trans (blk_setCell_other _ _ _ n1)
          · exact (h.seen.set k _).keep (blk_setCell_other _ _ _ h.son)
          · rw [hrow]
            exact (h.out.keep (w' := w.setCell ⟨gs, k, none⟩ (.bool true)) (blk_setCell_other _ _ _ h.son.symm)).set k _
        · refine ⟨h.mark ⟨hx.arr, hx.nil, hx.le, hx.max⟩ (by show _ ≤ (World.setCell _ _ _).heap.size; simp) (fun b hb n1 n2 => ?_) ?_ ?_, (below_st (below_st (RowKit.Below.refl _ _) h.bo) h.bs).drew, fun b hb => (blk_setCell_other _ _ _ (h.tt b hb).2.2.1).trans (blk_setCell_other _ _ _ (h.tt b hb).2.2.2.1)⟩
          · exact (blk_setCell_other _ _ _ n1).trans (blk_setCell_other _ _ _ n2)
          · exact (h.seen.keep (w' := w.setCell ⟨go, k, none⟩ (.slice x.1 m x.2)) (blk_setCell_other _ _ _ h.son)).set k _
          · rw [hrow]
            exact (h.out.set k _).keep (blk_setCell_other _ _ _ h.son.symm)
      clear h hx hm hbad hl2 hx2 hsn
      go_enter Tryd.func118, Tryd.ntmps118
      go_upto_region 3 with fail
      refine wp_region_noPanic ?_
      go_region_law (fail)
      all_goals refine NoPanic.normal ?_
      all_goals
        generalize hW : World.drew _ = W
        obtain ⟨hwk, hbw, htw⟩ := HMK.out W (by first | exact .inl hW.symm | exact .inr hW.symm)
        have HWK := Lib.hid hwk; have HBW := Lib.hid hbw; have HTW := Lib.hid htw
        have p7 := hwk.box.cell (j := 7) rfl
        have hlw := hwk.box.lt
        have HKI : Hid (Rep.cells (α := Int) (fun _ => False) W [.int .i64 (k : Int)] (k : Int)) := ⟨rfl, by unfold I64; omega⟩
        have HTL : Hid ((todoI ⟨s.seen.set k true, s.out.set k l, s.todo, s.bad⟩).length ≤ 1000) := by show _ ≤ _; unfold todoI; simpa using ht
        have HBL : Hid (B ≤ W.heap.size) := Nat.le_trans HWK.out.bg (Nat.le_of_lt hlw)
        clear hW hwk hbw htw q4 q5 q6 q7 q8 f8 fs fo e1 e2 e12 e21 HMK
        go_wp2_with ((at_builtin; with_reducible refine Tryd.wp_appd56 rfl rfl rfl rfl rfl (by first | rfl | simp) (HWK.out.todo) (HKI.out) (fun _ h => h.elim) (by have := HTL.out; omega) (by exact HBL.out) fun v' w' hown' hg' hst' => ?_); obtain ⟨va, vc, hve, -, -, -⟩ := hown'.arr; (obtain ⟨vq, hvq⟩ : ∃ q, q = (todoI ⟨s.seen.set k true, s.out.set k l, s.todo, s.bad⟩ ++ [(k : Int)]).length := ⟨_, rfl⟩); rw [← hvq] at hve; subst hve; clear hvq; have HO := Lib.hid hown'; have HG := Lib.hid hg'; have HS := Lib.hid hst'; have c7' := (Go.Bk.cell_grown (o := 7) hg' hlw HWK.out.tg).trans p7; have f7' := (frozen_grown (o := 7) hg' hlw HWK.out.tg).trans (HWK.out.box.frozen 7); clear hown' hg' hst')
        refine bodyPost_end (results_none rfl _ _ _) rfl ⟨rfl, .slice va vq vc, hs.set k x, ?_, below_st (HBW.out.grown HG.out HBL.out fun r hr => (HWK.out.todo.lt r hr).1) HWK.out.bg, fun b hb => ?_⟩
        · rw [HC.out]
          exact HWK.out.push HO.out HG.out HS.out
        · obtain ⟨t1, t2, t3, t4, t5⟩ := HWK.out.tt b hb
          exact (blk_setCell_other _ _ _ t2).trans ((HG.out.block b t1 (fun e => t5 e.symm)).trans (HTW.out b hb))
    | true =>
      have HC : Hid (come n s k l = if l2 = l then s else { s with bad := true }) := by
        show _ = _
        unfold come
        rw [if_neg (by rw [hm]; exact hbad)]
        simp only [Int.toNat_natCast, hsn, hl2, Option.getD_some]
      obtain ⟨hr1, hr2⟩ := h.rows k x2 l2 hx2 hl2
      have HEQ : Hid (Calls Tryd.prog 135 #[.slice x2.1 m2 x2.2, .slice x.1 m x.2] w fun e w' => e = .returned (.bool (decide (l2 = l))) ∧ Quiet w w') := equalT_any hm2'.symm hm hr1 hx.arr
      have HKQ : Hid (∀ w', Quiet w w' → Wk B w' g gs go n pa rg gn a3 nA c3 a4 c4 s T vT hs ∧ RowKit.Below B w w' ∧ ∀ b, T b → w'.heap[b]? = w.heap[b]?) := fun w' hq => ⟨h.keep (hq.below _), hq.below _, fun b _ => hq.heap b⟩
      clear h hx hm hbad hsn hl2 hx2 hr1 hr2 e12 e21 hm2'
      by_cases he : l2 = l
      · have hd : decide (l2 = l) = true := by simp [he]
        rw [hd] at HEQ
        rw [if_pos he] at HC
        clear he hd
        go_enter Tryd.func118, Tryd.ntmps118
        go_wp2_with (go_at_call 135; refine HEQ.out.mono ?_; rintro e w1 ⟨rfl, hq⟩; have HQ := Lib.hid hq; clear hq)
        refine bodyPost_end (results_none rfl _ _ _) rfl ⟨rfl, vT, hs, ?_, (HKQ.out _ HQ.out).2⟩
        rw [HC.out]
        exact (HKQ.out _ HQ.out).1
      · have hd : decide (l2 = l) = false := by simp [he]
        rw [hd] at HEQ
        rw [if_neg he] at HC
        clear he hd
        go_enter Tryd.func118, Tryd.ntmps118
        go_wp2_with (go_at_call 135; refine HEQ.out.mono ?_; rintro e w1 ⟨rfl, hq⟩; have HQ := Lib.hid (HKQ.out _ hq); have p8 := HQ.out.1.box.cell (j := 8) rfl; have f8' := HQ.out.1.box.frozen 8; clear hq)
        refine bodyPost_end (results_none rfl _ _ _) rfl ⟨rfl, vT, hs, ?_, below_st HQ.out.2.1 HQ.out.1.bg, fun b hb => (blk_setCell_other _ _ _ (HQ.out.1.tt b hb).2.1).trans (HQ.out.2.2 b hb)⟩
        rw [HC.out]
        exact HQ.out.1.setBad
end
end Go.Proofs.YtjlnaiiajlahgaaDoor.cod
