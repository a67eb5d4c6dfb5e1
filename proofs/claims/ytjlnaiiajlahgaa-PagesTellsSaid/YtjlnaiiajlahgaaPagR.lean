/- PagesTells: a version put where none is: walked. -/
import Derived.Test.YtjlnaiiajlahgaaPagP2
set_option linter.unusedVariables false
set_option linter.unusedSimpArgs false
namespace Go.Proofs.Ytjlnaiiajlahgaa.pag
open Go.Bk Go.RowKit

structure RootSt (w w' : World) (g B : Nat) (vP vU vR : Value) (s' : Store) (vR' : Value) (hs' : List Hd) : Prop where
  box : Blk w' g 26 [vP, vU, vR']
  parts : Parts w' B vP vU vR' hs' s'
  off : Off vP vU vR' hs' g
  only : Only w w' (fun b => b = g ∨ vR.ownBlock = some b)
def RootPost (w : World) (g B : Nat) (vP vU vR : Value) (s : Store) (l : List Int) (e : Ending) (w' : World) : Prop :=
  e = .returned (.int .i64 (emptyAt s.roots : Nat)) ∧ ∃ vR' hs', RootSt w w' g B vP vU vR ⟨s.pages, s.uses, newRoots s.roots l⟩ vR' hs'
theorem Off.setR {vP vU vR v : Value} {hs : List Hd} {g k : Nat} {h1 : v.oneCell' = true} (h : Off vP vU vR hs g) (hv : v.ownBlock ≠ some g) : Off vP vU vR (hs.set k ⟨v, h1⟩) g :=
  ⟨h.p, h.u, h.r, fun j x hx => by
    by_cases hj : k = j
    · subst hj
      by_cases hl : k < hs.length
      · rw [List.getElem?_set_self hl] at hx
        cases hx
        exact hv
      · rw [List.getElem?_eq_none (by rw [List.length_set]; omega)] at hx
        cases hx
    · rw [List.getElem?_set_ne hj] at hx
      exact h.rows j x hx⟩
theorem set_end {α : Type} (l : List α) (x y : α) : (l ++ [x]).set l.length y = l ++ [y] := by
  rw [List.set_append_right _ _ (Nat.le_refl _), Nat.sub_self]
  rfl
set_option maxRecDepth 100000 in
set_option maxHeartbeats 4000000 in
theorem root_any {w : World} {g B : Nat} {vP vU vR : Value} {hs : List Hd} {s : Store} {a : Option Addr} {n c : Nat} {l : List Int} (hbx : Blk w g 26 [vP, vU, vR]) (hpt : Parts w B vP vU vR hs s) (hoff : Off vP vU vR hs g) (hB : B ≤ w.heap.size) (hm : s.roots.length ≤ 40)
    (hl : Go.Bk.Own (fun _ => False) w B 3 (.slice a n c) l) (hov : OffV (.slice a n c) vP vU vR hs) (hog : (Value.slice a n c).ownBlock ≠ some g) :
    Calls Try.prog 35 #[.pointer (some ⟨g, 0, none⟩), .slice a n c] w (RootPost w g B vP vU vR s l) := by
  obtain ⟨ra, rc, rfl, -, -⟩ := hpt.roots.form
  obtain ⟨m, hm1⟩ : ∃ m, m = s.roots.length := ⟨_, rfl⟩
  have hidx := idxF_any (w := w) (a := ra) (c := rc) rfl hpt.roots.arr
  have hg := hbx.lt
  have HH : Hid (hs.length = m) := by show _ = _; rw [hpt.roots.len, hm1]
  rw [← hm1] at hbx hpt hoff hov hidx hm
  rw [← hm1]
  have HM := Lib.hid hm1
  have HID := Lib.hid hidx
  have HPT := Lib.hid hpt; have HOFF := Lib.hid hoff; have HOV := Lib.hid hov; have HOG := Lib.hid hog; have HL := Lib.hid hl; have HB := Lib.hid hB; have HBX := Lib.hid hbx
  have x2 := hbx.cell (j := 2) rfl
  have fx2 := hbx.frozen 2
  obtain ⟨k, hk⟩ : ∃ k, k = emptyAt s.roots := ⟨_, rfl⟩
  have hkm : k ≤ m := by rw [hk, hm1]; exact (findIdx_spec _ _).1
  have HIX : Hid (idxRes (fun r => decide (r = [])) s.roots = if k < m then (k : Int) else -1) := by
    show _ = _
    unfold idxRes
    rw [hk, hm1]
    rfl
  have HK := Lib.hid hk
  clear hpt hoff hov hog hl hB hidx hk
  go_enter Try.func35, Try.ntmps35
  by_cases hlt : k < m
  · have HI2 : Hid (idxRes (fun r => decide (r = [])) s.roots = (k : Int)) := by show _ = _; rw [HIX.out, if_pos hlt]
    have HN : Hid (newRoots s.roots l = s.roots.set k l) := by show _ = _; unfold newRoots; rw [← HK.out, ← HM.out, if_pos hlt]
    obtain ⟨x, hx⟩ : ∃ x, hs[k]? = some x := ⟨_, List.getElem?_eq_getElem (by rw [HH.out]; exact hlt)⟩
    obtain ⟨gr, cap, hv, -, hgr, hcell, hfz⟩ := HPT.out.roots.at hx
    injection hv with hv1 hv2 hv3
    subst hv1 hv3
    have HST : Hid (RootSt w (w.setCell ⟨gr, k, none⟩ (.slice a n c)) g B vP vU (.slice (some ⟨gr, 0, none⟩) m rc) ⟨s.pages, s.uses, s.roots.set k l⟩ (.slice (some ⟨gr, 0, none⟩) m rc) (hs.set k ⟨.slice a n c, rfl⟩)) := by
      have hgb : w.grownBy (w.setCell ⟨gr, k, none⟩ (.slice a n c)) (some gr) := grownBy_setCell (World.grownBy.refl _ _) _ _
      have hne : g ≠ gr := fun e => HOFF.out.r (by rw [e]; rfl)
      exact ⟨HBX.out.keep (hgb.block g HBX.out.lt (fun e => hne (Option.some.inj e))), HPT.out.setR rfl (by rw [← HM.out]; exact hlt) rfl HL.out HOV.out.p HOV.out.u HOV.out.r (fun j y _ hy => HOV.out.rows j y hy), HOFF.out.setR HOG.out, Only.grown hgb (fun b e => .inr (by rw [← e]; rfl))⟩
    have dn : decide ((k : Int) < 0) = false := decide_eq_false (by omega)
    clear hx hv2 HBX HPT HOFF HOV HL hbx hm1
    go_wp2_with ((with_reducible refine HID.out.mono ?_); rintro e w2 ⟨rfl, rfl⟩; rw [HI2.out])
    go_ret
    exact ⟨by rw [HK.out]; rfl, _, _, by rw [HN.out]; exact HST.out⟩
  · have hkm2 : k = m := by omega
    have HI2 : Hid (idxRes (fun r => decide (r = [])) s.roots = (-1 : Int)) := by show _ = _; rw [HIX.out, if_neg hlt]
    have HN : Hid (newRoots s.roots l = s.roots ++ [l]) := by show _ = _; unfold newRoots; rw [← HK.out, ← HM.out, if_neg hlt]
    have HK2 : Hid (k = m) := hkm2
    have HRA : Hid (Go.Bk.Own (fun _ => False) w B 23 (.slice ra m rc) hs) := HPT.out.roots.out
    have HONE : Hid ((Value.slice none 0 0).oneCell' = true) := rfl
    have HFIN : Hid (∀ (w5 : World) (v5 : Value), Go.Bk.Own (fun _ => False) w5 B 23 v5 (hs ++ [nilHd]) → w.grownBy w5 (Value.slice ra m rc).ownBlock → Stay w (.slice ra m rc) v5 →
        ∃ gr c5, v5 = .slice (some ⟨gr, 0, none⟩) (m + 1) c5 ∧ Blk w5 g 26 [vP, vU, .slice ra m rc] ∧ (w5.setCell ⟨g, 2, none⟩ (.slice (some ⟨gr, 0, none⟩) (m + 1) c5)).cell? ⟨gr, m, none⟩ = some (.slice none 0 0) ∧ (w5.setCell ⟨g, 2, none⟩ (.slice (some ⟨gr, 0, none⟩) (m + 1) c5)).frozen? ⟨gr, m, none⟩ = false ∧
          Blk (w5.setCell ⟨g, 2, none⟩ (.slice (some ⟨gr, 0, none⟩) (m + 1) c5)) g 26 [vP, vU, .slice (some ⟨gr, 0, none⟩) (m + 1) c5] ∧
          RootSt w ((w5.setCell ⟨g, 2, none⟩ (.slice (some ⟨gr, 0, none⟩) (m + 1) c5)).setCell ⟨gr, m, none⟩ (.slice a n c)) g B vP vU (.slice ra m rc) ⟨s.pages, s.uses, s.roots ++ [l]⟩ (.slice (some ⟨gr, 0, none⟩) (m + 1) c5) ((hs ++ [nilHd]).set m ⟨.slice a n c, rfl⟩)) := fun w5 v5 ho hg hst => by
      have hro := HPT.out.roots.pushNil ho hg hst
      have hp5 := HPT.out.pushR (x := nilHd) hro (Apart.nil_left _ _ _) (Apart.nil_left _ _ _) hg hst
      have hoff5 : Off vP vU v5 (hs ++ [nilHd]) g := HOFF.out.pushNew hst HBX.out.lt (by intro e; cases e)
      have hbx5 := HBX.out.keep (hg.block g HBX.out.lt (fun e => HOFF.out.r e.symm))
      obtain ⟨gr, c5, hv5, -, hgr5, -, -⟩ := hp5.roots.at (r := m) (x := nilHd) (by rw [List.getElem?_append_right (by rw [HH.out]; exact Nat.le_refl _), HH.out, Nat.sub_self]; rfl)
      rw [List.length_append, HH.out] at hv5
      change v5 = .slice (some ⟨gr, 0, none⟩) (m + 1) c5 at hv5
      subst hv5
      have hgs : w5.grownBy (w5.setCell ⟨g, 2, none⟩ (.slice (some ⟨gr, 0, none⟩) (m + 1) c5)) (some g) := grownBy_setCell (World.grownBy.refl _ _) _ _
      have hp6 := hp5.other hgs hoff5
      have hbx6 := hbx5.set 2 (.slice (some ⟨gr, 0, none⟩) (m + 1) c5)
      obtain ⟨gr', c5', hv6, -, -, hcell6, hfz6⟩ := hp6.roots.at (r := m) (x := nilHd) (by rw [List.getElem?_append_right (by rw [HH.out]; exact Nat.le_refl _), HH.out, Nat.sub_self]; rfl)
      injection hv6 with hv7
      injection hv7 with hv7
      injection hv7 with hv7
      subst hv7
      have hgt : (w5.setCell ⟨g, 2, none⟩ (.slice (some ⟨gr, 0, none⟩) (m + 1) c5)).grownBy ((w5.setCell ⟨g, 2, none⟩ (.slice (some ⟨gr, 0, none⟩) (m + 1) c5)).setCell ⟨gr, m, none⟩ (.slice a n c)) (some gr) := grownBy_setCell (World.grownBy.refl _ _) _ _
      have hne : g ≠ gr := fun e => hoff5.r (by rw [e]; rfl)
      have hlow := HL.out.lt
      have hov5 : Apart (.slice a n c) (.slice (some ⟨gr, 0, none⟩) (m + 1) c5) := (HOV.out.r.symm.moved hst fun k hk => (hlow k hk).2).symm
      have hl6 := (HL.out.keep hg (apart_ne HOV.out.r) (fun _ h => h.elim)).keep hgs (.inr HOG.out) (fun _ h => h.elim)
      have hset := hp6.setR (k := m) rfl (by show m < (s.roots ++ [[]]).length; rw [List.length_append, ← HM.out]; exact Nat.lt_succ_self _) rfl hl6 HOV.out.p HOV.out.u hov5 (fun j y hj hy => by
        by_cases hjl : j < hs.length
        · rw [List.getElem?_append_left hjl] at hy
          exact HOV.out.rows j y hy
        · have := (List.getElem?_eq_some_iff.1 hy).1
          rw [List.length_append, HH.out] at this
          have := HH.out
          simp at *
          omega)
      refine ⟨gr, c5, rfl, hbx5, hcell6, hfz6, hbx6, hbx6.keep (hgt.block g hbx6.lt (fun e => hne (Option.some.inj e))), ?_, hoff5.setR HOG.out, ?_⟩
      · have e : (s.roots ++ [([] : List Int)]).set m l = s.roots ++ [l] := by rw [HM.out]; exact set_end _ _ _
        rw [← e]
        exact hset
      · have h1 : Only w (w5.setCell ⟨g, 2, none⟩ (.slice (some ⟨gr, 0, none⟩) (m + 1) c5)) (fun b => b = g ∨ (Value.slice ra m rc).ownBlock = some b) := (Only.grown hg fun b e => .inr e).trans (Only.grown hgs fun b e => .inl (Option.some.inj e).symm)
        refine ⟨hgt.os.trans h1.os, hgt.tape.trans h1.tape, hgt.output.trans h1.output, Nat.le_trans h1.size hgt.size, fun b hb hi => (hgt.block b (Nat.lt_of_lt_of_le hb h1.size) (fun e => ?_)).trans (h1.block b hb hi)⟩
        have e := Option.some.inj e
        subst e
        rcases hst _ rfl with h2 | h2
        · exact hi (.inr h2)
        · exact absurd hb (Nat.not_lt.2 h2)
    clear HBX HPT HOFF HOV HL hm1 hlt hkm HIX hkm2
    go_wp2_with (first
      | ((with_reducible refine HID.out.mono ?_); rintro e w2 ⟨rfl, rfl⟩; rw [HI2.out])
      | (at_builtin; (with_reducible refine wp_appHd rfl rfl rfl rfl rfl (by first | rfl | simp) HRA.out HONE.out (by rw [HH.out]; omega) HB.out fun v' w5 hown' hg' hst' => ?_); (obtain ⟨gr, c5, rfl, hb5, hc5, hf5, hb6, hrt⟩ := HFIN.out w5 v' hown' hg' hst'); have HRT := Lib.hid hrt; have y2 := hb5.cell (j := 2) rfl; have z2 := hb6.cell (j := 2) rfl; have fy2 := hb5.frozen 2; clear hown' hg' hst' hb5 hb6 hrt))
    go_ret
    exact ⟨by rw [← HK.out, HK2.out]; rfl, _, _, by rw [HN.out]; exact HRT.out⟩
end Go.Proofs.Ytjlnaiiajlahgaa.pag
