/- HeatTurns: Heads of the document: a round's ways where a trace was taken. -/
import Derived.Test.YtjlnaiiajlahgaaHeatE1
import Derived.BigRegion
import Derived.Deep.RegionHeld3
set_option linter.unusedVariables false
set_option linter.unusedSimpArgs false
namespace Go.Proofs.Ytjlnaiiajlahgaa.heat
open Go.Bk Go.RowKit Go.Maps

structure Pre (w wj : World) (hot : Int) (L : List Api.THead) (O : List Int) (fn at' kd : Int) (gc : Nat) (a6 : Option Addr) (m c6 : Nat) (v7 : Value) : Prop where
  st : HSt w wj (.slice a6 m c6) v7 (L, O)
  len : m = L.length
  inv : Inv L
  hot1 : 1 ≤ hot
  hot2 : hot ≤ 1000
  few : O.length ≤ 300
  c0 : wj.cell? ⟨gc, 0, none⟩ = some (.int .i64 fn)
  c1 : wj.cell? ⟨gc, 1, none⟩ = some (.int .i64 at')
  c2 : wj.cell? ⟨gc, 2, none⟩ = some (.int .i64 kd)
  lt : gc < wj.heap.size
  ne7 : v7.ownBlock ≠ some gc
  i0 : I64 fn
  i1 : I64 at'
theorem Pre.head {w wj : World} {hot : Int} {L : List Api.THead} {O : List Int} {fn at' kd : Int} {gc m c6 : Nat} {a6 : Option Addr} {v7 : Value} (P : Pre w wj hot L O fn at' kd gc a6 m c6 v7) {x : Api.THead} (hc : cur L fn at' = some x) :
    ∃ g, a6 = some ⟨g, 0, none⟩ ∧ w.heap.size ≤ g ∧ Good x ∧ x.Fn = fn ∧ x.At = at' ∧ L[posn L fn at']? = some x ∧ posn L fn at' < m := by
  obtain ⟨hgx, h1, h2⟩ := cur_good P.inv hc
  have hxp := ((cur_iff P.inv.srt).1 hc).1
  obtain ⟨g, cap, he, hgw, -⟩ := P.st.at hxp
  injection he with he1 he2 he3
  exact ⟨g, he1, hgw, hgx, h1, h2, hxp, by rw [P.len]; exact (List.getElem?_eq_some_iff.1 hxp).1⟩
section
variable {w wj : World} {hot : Int} {L : List Api.THead} {O : List Int} {fn at' kd : Int} {gc m c6 : Nat} {a6 : Option Addr} {v1 v7 v16 v17 v18 : Value}
set_option maxRecDepth 100000 in
set_option maxHeartbeats 4000000 in
theorem aft_taken_none (P : Pre w wj hot L O fn at' kd gc a6 m c6 v7) (hc : cur L fn at' = none) (hkd : kd ≠ 0) : Aft w wj hot L O fn at' kd gc v1 (.slice a6 m c6) v7 (.int .i64 (-1)) v16 v17 v18 := by
  unfold Aft
  intros
  rename_i hK1
  have HK1 := Lib.hid hK1
  have HP := Lib.hid P
  have HTO : Hid (Own (fun _ => False) wj w.heap.size 3 v7 O) := P.st.told
  have hol := P.few
  have r2 := P.c2
  have d0 : (kd != 0) = true := by simp [hkd]
  have HT : Hid (stepL hot L fn at' kd = (L, 5)) := by show _ = _; rw [step_taken hkd]; unfold takenL; rw [hc]
  have hi5 : I64 5 := by unfold I64; omega
  clear hkd hK1 P hc
  conv => arg 2; whnf
  go_wp2_with (at_builtin; (at_builtin; with_reducible refine Try.wp_appd23 rfl rfl rfl rfl rfl (by first | rfl | simp) (HTO.out) (int_cells hi5 _ _) (fun _ h => h.elim) (by omega) (by exact HP.out.st.below.size) fun v' w' hown' hg' hst' => ?_); have HQ := Lib.hid (HP.out.st.push hown' hg' hst'); clear hown' hg' hst')
  apply HK1.out
  exact ⟨_, _, HT.out, HQ.out⟩
set_option maxRecDepth 100000 in
set_option maxHeartbeats 4000000 in
theorem aft_taken_state (P : Pre w wj hot L O fn at' kd gc a6 m c6 v7) {x : Api.THead} (hc : cur L fn at' = some x) (hkd : kd ≠ 0) (hi1 : x.Is ≠ 1) {p : Nat} (hp : p = posn L fn at') : Aft w wj hot L O fn at' kd gc v1 (.slice a6 m c6) v7 (.int .i64 p) v16 v17 v18 := by
  unfold Aft
  intros
  rename_i hK1
  have HK1 := Lib.hid hK1
  have HP := Lib.hid P
  have HTO : Hid (Own (fun _ => False) wj w.heap.size 3 v7 O) := P.st.told
  have hol := P.few
  have r2 := P.c2
  have d0 : (kd != 0) = true := by simp [hkd]
  obtain ⟨g, rfl, hgw, hgx, rfl, rfl, hxp, hpm⟩ := P.head hc
  rw [← hp] at hxp hpm
  have d1 : (x.Is != 1) = true := by simp [hi1]
  have HT : Hid (stepL hot L x.Fn x.At kd = (L, 8)) := by show _ = _; rw [step_taken hkd]; unfold takenL; rw [hc]; dsimp only; rw [if_pos hi1]
  have hi8 : I64 8 := by unfold I64; omega
  have hdp : decide ((p : Int) < 0) = false := decide_eq_false (by omega)
  obtain ⟨-, ⟨y0, y1, y2, y3, y4, y5⟩, -⟩ := P.st.at2 hxp
  have hm100 : m ≤ 100 := by rw [P.len]; exact P.inv.few
  clear hkd hK1 P hc hgx hxp hi1 hp
  conv => arg 2; whnf
  go_wp2_with (at_builtin; (at_builtin; with_reducible refine Try.wp_appd23 rfl rfl rfl rfl rfl (by first | rfl | simp) (HTO.out) (int_cells hi8 _ _) (fun _ h => h.elim) (by omega) (by exact HP.out.st.below.size) fun v' w' hown' hg' hst' => ?_); have HQ := Lib.hid (HP.out.st.push hown' hg' hst'); clear hown' hg' hst')
  apply HK1.out
  exact ⟨_, _, HT.out, HQ.out⟩
set_option maxRecDepth 100000 in
set_option maxHeartbeats 4000000 in
theorem aft_taken_good (P : Pre w wj hot L O fn at' kd gc a6 m c6 v7) {x : Api.THead} (hc : cur L fn at' = some x) (hk1 : kd = 1) (hi1 : x.Is = 1) {p : Nat} (hp : p = posn L fn at') : Aft w wj hot L O fn at' kd gc v1 (.slice a6 m c6) v7 (.int .i64 p) v16 v17 v18 := by
  unfold Aft
  intros
  rename_i hK1
  have HK1 := Lib.hid hK1
  have HP := Lib.hid P
  have HTO : Hid (Own (fun _ => False) wj w.heap.size 3 v7 O) := P.st.told
  have hol := P.few
  have r2 := P.c2
  have hkd : kd ≠ 0 := by omega
  have d0 : (kd != 0) = true := by simp [hkd]
  obtain ⟨g, rfl, hgw, hgx, rfl, rfl, hxp, hpm⟩ := P.head hc
  rw [← hp] at hxp hpm
  have d1 : (x.Is != 1) = false := by simp [hi1]
  have d2 : (kd == 1) = true := by simp [hk1]
  have HT : Hid (stepL hot L x.Fn x.At kd = (L.set p { x with Is := 2 }, 0)) := by
    show _ = _
    rw [step_taken hkd]; unfold takenL; rw [hc]; dsimp only
    rw [if_neg (by simp [hi1]), if_pos (by simp [hk1]), put_set P.inv.srt (x := { x with Is := 2 }) (y := x) hc, hp]
  have hi0 : I64 0 := by unfold I64; omega
  have hdp : decide ((p : Int) < 0) = false := decide_eq_false (by omega)
  obtain ⟨-, ⟨y0, y1, y2, y3, y4, y5⟩, -⟩ := P.st.at2 hxp
  have hm100 : m ≤ 100 := by rw [P.len]; exact P.inv.few
  have HSF : Hid (∀ w' v7', HSt w w' (.slice (some ⟨g, 0, none⟩) m c6) v7' (L, O ++ [0]) → w'.cell? ⟨g, p * 6 + 5, none⟩ = some (.int .i64 x.Is) ∧ w'.frozen? ⟨g, p * 6 + 5, none⟩ = false ∧ HSt w (w'.setCell ⟨g, p * 6 + 5, none⟩ (.int .i64 2)) (.slice (some ⟨g, 0, none⟩) m c6) v7' (L.set p { x with Is := 2 }, O ++ [0])) := by
    intro w' v7' hP
    obtain ⟨-, ⟨z0, z1, z2, z3, z4, z5⟩, hfz, hset⟩ := hP.at2 hxp
    exact ⟨z5, hfz _, hset 5 (.int .i64 2) { x with Is := 2 } (by decide) rfl (by have := head_in hgx; exact ⟨this.1, this.2.1, this.2.2.1, this.2.2.2.1, this.2.2.2.2.1, by unfold I64; dsimp only; omega⟩)⟩
  clear hkd hK1 P hc hgx hxp hi1 hp hk1
  conv => arg 2; whnf
  go_wp2_with (at_builtin; (at_builtin; with_reducible refine Try.wp_appd23 rfl rfl rfl rfl rfl (by first | rfl | simp) (HTO.out) (int_cells hi0 _ _) (fun _ h => h.elim) (by omega) (by exact HP.out.st.below.size) fun v' w' hown' hg' hst' => ?_); have HQ := Lib.hid (HP.out.st.push hown' hg' hst'); (obtain ⟨z5, f5, hset⟩ := HSF.out _ _ HQ.out); have HSET := Lib.hid hset; have r2' := (Go.Bk.cell_grown hg' (o := 2) HP.out.lt HP.out.ne7).trans r2; clear hown' hg' hst' hset)
  apply HK1.out
  exact ⟨_, _, HT.out, HSET.out⟩
end
end Go.Proofs.Ytjlnaiiajlahgaa.heat
