/- HeatTurns: Heads of the document: a round's way where a trace was taken that is no good. -/
import Derived.Test.YtjlnaiiajlahgaaHeatE2
import Derived.Deep.RegionLaw
set_option linter.unusedVariables false
set_option linter.unusedSimpArgs false
namespace Go.Proofs.Ytjlnaiiajlahgaa.heat
open Go.Bk Go.RowKit Go.Maps

theorem HSt.set2 {w w1 : World} {g m c6 : Nat} {v7 : Value} {l : List Api.THead} {o : List Int} (h : HSt w w1 (.slice (some ⟨g, 0, none⟩) m c6) v7 (l, o)) {k : Nat} {x : Api.THead} (hk : l[k]? = some x) (j : Nat) (u : Value) (x' : Api.THead) (hj : j < 6) (he : (hC x).set j u = hC x') (hi : HInts x') :
    HSt w (w1.setCell ⟨g, k * 6 + j, none⟩ u) (.slice (some ⟨g, 0, none⟩) m c6) v7 (l.set k x', o) ∧ (l.set k x')[k]? = some x' := by
  obtain ⟨-, -, -, hset⟩ := h.at2 hk
  exact ⟨hset j u x' hj he hi, by rw [List.getElem?_set_self (List.getElem?_eq_some_iff.1 hk).1]⟩
/-- A head made worse, field by field. -/
theorem worse_stores {w w' : World} {g m c6 p : Nat} {v7 : Value} {l : List Api.THead} {o : List Int} {x : Api.THead} (h : HSt w w' (.slice (some ⟨g, 0, none⟩) m c6) v7 (l, o)) (hk : l[p]? = some x) (hg : Good x) (h1 : x.Is = 1) {W : World}
    (hW : W = ((((w'.setCell ⟨g, p * 6 + 4, none⟩ (.int .i64 (x.Fails + 1))).setCell ⟨g, p * 6 + 2, none⟩ (.int .i64 0)).setCell ⟨g, p * 6 + 3, none⟩ (.int .i64 (x.Limit * 2))).setCell ⟨g, p * 6 + 5, none⟩ (.int .i64 0)).drew) :
    W.cell? ⟨g, p * 6 + 4, none⟩ = some (.int .i64 (x.Fails + 1)) ∧ W.cell? ⟨g, p * 6 + 5, none⟩ = some (.int .i64 0) ∧ W.frozen? ⟨g, p * 6 + 5, none⟩ = false ∧
      (x.Fails + 1 ≠ 3 → HSt w W (.slice (some ⟨g, 0, none⟩) m c6) v7 (l.set p (worse x), o)) ∧ (x.Fails + 1 = 3 → HSt w (W.setCell ⟨g, p * 6 + 5, none⟩ (.int .i64 3)) (.slice (some ⟨g, 0, none⟩) m c6) v7 (l.set p (worse x), o)) := by
  have hi := head_in hg
  have hthree := worse_three hg h1
  unfold Good at hg
  have i1 : I64 (x.Fails + 1) := by unfold I64; omega
  have i2 : I64 (x.Limit * 2) := by unfold I64; omega
  have i0 : I64 0 := by unfold I64; omega
  have i3 : I64 3 := by unfold I64; omega
  obtain ⟨a1, b1⟩ := h.set2 hk 4 (.int .i64 (x.Fails + 1)) { x with Fails := x.Fails + 1 } (by decide) rfl ⟨hi.1, hi.2.1, hi.2.2.1, hi.2.2.2.1, i1, hi.2.2.2.2.2⟩
  obtain ⟨a2, b2⟩ := a1.set2 b1 2 (.int .i64 0) { x with Fails := x.Fails + 1, Count := 0 } (by decide) rfl ⟨hi.1, hi.2.1, i0, hi.2.2.2.1, i1, hi.2.2.2.2.2⟩
  rw [List.set_set] at a2 b2
  obtain ⟨a3, b3⟩ := a2.set2 b2 3 (.int .i64 (x.Limit * 2)) { x with Fails := x.Fails + 1, Count := 0, Limit := x.Limit * 2 } (by decide) rfl ⟨hi.1, hi.2.1, i0, i2, i1, hi.2.2.2.2.2⟩
  rw [List.set_set] at a3 b3
  obtain ⟨a4, b4⟩ := a3.set2 b3 5 (.int .i64 0) { x with Fails := x.Fails + 1, Count := 0, Limit := x.Limit * 2, Is := 0 } (by decide) rfl ⟨hi.1, hi.2.1, i0, i2, i1, i0⟩
  rw [List.set_set] at a4 b4
  have a5 := a4.keep (RowKit.Below.refl _ _).drew
  rw [← hW] at a5
  obtain ⟨a6, -⟩ := a5.set2 b4 5 (.int .i64 3) { x with Fails := x.Fails + 1, Count := 0, Limit := x.Limit * 2, Is := 3 } (by decide) rfl ⟨hi.1, hi.2.1, i0, i2, i1, i3⟩
  rw [List.set_set] at a6
  obtain ⟨-, ⟨-, -, -, -, z4, z5⟩, hf, -⟩ := a5.at2 b4
  refine ⟨z4, z5, hf _, fun hn => ?_, fun hn => ?_⟩
  · have e : worse x = { x with Fails := x.Fails + 1, Count := 0, Limit := x.Limit * 2, Is := 0 } := by unfold worse; rw [if_neg (by omega), Int.mul_comm]
    rw [e]; exact a5
  · have e : worse x = { x with Fails := x.Fails + 1, Count := 0, Limit := x.Limit * 2, Is := 3 } := by unfold worse; rw [if_pos (by omega), Int.mul_comm]
    rw [e]; exact a6
section
variable {w wj : World} {hot : Int} {L : List Api.THead} {O : List Int} {fn at' kd : Int} {gc m c6 : Nat} {a6 : Option Addr} {v1 v7 v16 v17 v18 : Value}
set_option maxRecDepth 100000 in
set_option maxHeartbeats 4000000 in
theorem aft_taken_bad (P : Pre w wj hot L O fn at' kd gc a6 m c6 v7) {x : Api.THead} (hc : cur L fn at' = some x) (hkd : kd ≠ 0) (hk1 : kd ≠ 1) (hi1 : x.Is = 1) {p : Nat} (hp : p = posn L fn at') : Aft w wj hot L O fn at' kd gc v1 (.slice a6 m c6) v7 (.int .i64 p) v16 v17 v18 := by
  unfold Aft
  intros
  rename_i hK1
  have HK1 := Lib.hid hK1
  have HP := Lib.hid P
  have HTO : Hid (Own (fun _ => False) wj w.heap.size 3 v7 O) := P.st.told
  have hol := P.few
  have r2 := P.c2
  have d0 : (kd != 0) = true := by simp [hkd]
  obtain ⟨g, rfl, hgw, hgx, rfl, rfl, hxp, hpm⟩ := P.head hc
  rw [← hp] at hxp hpm
  have d1 : (x.Is != 1) = false := by simp [hi1]
  have d2 : (kd == 1) = false := by simp [hk1]
  have HT : Hid (stepL hot L x.Fn x.At kd = (L.set p (worse x), 0)) := by
    show _ = _
    rw [step_taken hkd]; unfold takenL; rw [hc]; dsimp only
    rw [if_neg (by simp [hi1]), if_neg (by simp [hk1]), put_set P.inv.srt (x := worse x) (y := x) hc, hp]
    rfl
  have hi0 : I64 0 := by unfold I64; omega
  have hdp : decide ((p : Int) < 0) = false := decide_eq_false (by omega)
  obtain ⟨-, ⟨y0, y1, y2, y3, y4, y5⟩, -⟩ := P.st.at2 hxp
  have hm100 : m ≤ 100 := by rw [P.len]; exact P.inv.few
  have HF3 := Lib.hid (worse_three hgx hi1)
  have hgx2 := hgx
  unfold Good at hgx2
  have hb1 : 0 ≤ x.Fails := by omega
  have hb2 : x.Fails ≤ 3 := by omega
  have hb3 : x.Limit ≤ 8000 := by omega
  have hb4 : 1 ≤ x.Limit := by omega
  have HSF : Hid (∀ w' v7', HSt w w' (.slice (some ⟨g, 0, none⟩) m c6) v7' (L, O ++ [0]) → (w'.cell? ⟨g, p * 6 + 2, none⟩ = some (.int .i64 x.Count) ∧ w'.cell? ⟨g, p * 6 + 3, none⟩ = some (.int .i64 x.Limit) ∧ w'.cell? ⟨g, p * 6 + 4, none⟩ = some (.int .i64 x.Fails) ∧ w'.cell? ⟨g, p * 6 + 5, none⟩ = some (.int .i64 x.Is)) ∧
      (w'.frozen? ⟨g, p * 6 + 2, none⟩ = false ∧ w'.frozen? ⟨g, p * 6 + 3, none⟩ = false ∧ w'.frozen? ⟨g, p * 6 + 4, none⟩ = false ∧ w'.frozen? ⟨g, p * 6 + 5, none⟩ = false)) := by
    intro w' v7' hP
    obtain ⟨-, ⟨z0, z1, z2, z3, z4, z5⟩, hfz, hset⟩ := hP.at2 hxp
    exact ⟨⟨z2, z3, z4, z5⟩, hfz _, hfz _, hfz _, hfz _⟩
  have HEF : Hid (IntKind.i64.wrap (x.Fails + 1) = x.Fails + 1) := by show _ = _; simp [IntKind.wrap, IntKind.bits, IntKind.signed]; omega
  have HEL : Hid (IntKind.i64.wrap (x.Limit * 2) = x.Limit * 2) := by show _ = _; simp [IntKind.wrap, IntKind.bits, IntKind.signed]; omega
  have HWS : Hid (∀ w' v7' W, HSt w w' (.slice (some ⟨g, 0, none⟩) m c6) v7' (L, O ++ [0]) → W = ((((w'.setCell ⟨g, p * 6 + 4, none⟩ (.int .i64 (x.Fails + 1))).setCell ⟨g, p * 6 + 2, none⟩ (.int .i64 0)).setCell ⟨g, p * 6 + 3, none⟩ (.int .i64 (x.Limit * 2))).setCell ⟨g, p * 6 + 5, none⟩ (.int .i64 0)).drew →
      W.cell? ⟨g, p * 6 + 4, none⟩ = some (.int .i64 (x.Fails + 1)) ∧ W.cell? ⟨g, p * 6 + 5, none⟩ = some (.int .i64 0) ∧ W.frozen? ⟨g, p * 6 + 5, none⟩ = false ∧
      (x.Fails + 1 ≠ 3 → HSt w W (.slice (some ⟨g, 0, none⟩) m c6) v7' (L.set p (worse x), O ++ [0])) ∧ (x.Fails + 1 = 3 → HSt w (W.setCell ⟨g, p * 6 + 5, none⟩ (.int .i64 3)) (.slice (some ⟨g, 0, none⟩) m c6) v7' (L.set p (worse x), O ++ [0]))) :=
    fun w' v7' W h1 h2 => worse_stores h1 hxp hgx hi1 h2
  clear hkd hK1 P hc hgx hgx2 hxp hi1 hp hk1
  conv => arg 2; whnf
  go_upto_region 18 with (at_builtin; (at_builtin; with_reducible refine Try.wp_appd23 rfl rfl rfl rfl rfl (by first | rfl | simp) (HTO.out) (int_cells hi0 _ _) (fun _ h => h.elim) (by omega) (by exact HP.out.st.below.size) fun v' w' hown' hg' hst' => ?_); have HQ := Lib.hid (HP.out.st.push hown' hg' hst'); (obtain ⟨⟨z2, z3, z4, z5⟩, f2, f3, f4, f5⟩ := HSF.out _ _ HQ.out); have r2' := (Go.Bk.cell_grown hg' (o := 2) HP.out.lt HP.out.ne7).trans r2; clear hown' hg' hst')
  obtain ⟨w5, hw5⟩ : ∃ w5 : World, w5 = w' := ⟨_, rfl⟩
  rw [← hw5] at HQ z2 z3 z4 z5 f2 f3 f4 f5 r2' ⊢
  clear hw5 y0 y1 y2 y3 y4 y5 r2
  refine wp_region_noPanic ?_
  go_region_law (fail)
  all_goals refine NoPanic.normal ?_
  all_goals
    rw [HEF.out, HEL.out]
    generalize hW : World.drew _ = W6
    obtain ⟨t4, t5, tf, ta, tb⟩ := HWS.out _ _ _ HQ.out hW.symm
    have HTA := Lib.hid ta; have HTB := Lib.hid tb
    clear hW ta tb z2 z3 z4 z5 f2 f3 f4 f5
    by_cases h3 : x.Fails + 1 = 3
    · have d3 : (x.Fails + 1 == 3) = true := by simp [h3]
      have H3 := Lib.hid h3
      clear h3
      go_wp2_with fail
      apply HK1.out
      exact ⟨_, _, HT.out, HTB.out H3.out⟩
    · have d3 : (x.Fails + 1 == 3) = false := by simp [h3]
      have H3 := Lib.hid h3
      clear h3
      go_wp2_with fail
      apply HK1.out
      exact ⟨_, _, HT.out, HTA.out H3.out⟩
end
end Go.Proofs.Ytjlnaiiajlahgaa.heat
