/- HeatTurns: Heads of the document: a round's ways where a turn is told of a loop that is known. -/
import Derived.Test.YtjlnaiiajlahgaaHeatE3
set_option linter.unusedVariables false
set_option linter.unusedSimpArgs false
namespace Go.Proofs.Ytjlnaiiajlahgaa.heat
open Go.Bk Go.RowKit Go.Maps

section
variable {w wj : World} {hot : Int} {L : List Api.THead} {O : List Int} {fn at' kd : Int} {gc m c6 : Nat} {a6 : Option Addr} {v1 v7 v16 v17 v18 : Value}
/-- What a turn leaves of a head that is cold. -/
theorem bump_stores {w w' : World} {g m c6 p : Nat} {v7 : Value} {l : List Api.THead} {o : List Int} {x : Api.THead} (h : HSt w w' (.slice (some ⟨g, 0, none⟩) m c6) v7 (l, o)) (hk : l[p]? = some x) (hg : Good x) (h0 : x.Is = 0) {W : World} (hW : w'.setCell ⟨g, p * 6 + 2, none⟩ (.int .i64 (x.Count + 1)) = W) :
    W.cell? ⟨g, p * 6 + 2, none⟩ = some (.int .i64 (x.Count + 1)) ∧ W.cell? ⟨g, p * 6 + 3, none⟩ = some (.int .i64 x.Limit) ∧ W.cell? ⟨g, p * 6 + 5, none⟩ = some (.int .i64 x.Is) ∧ W.frozen? ⟨g, p * 6 + 5, none⟩ = false ∧
      ∀ q, HSt w (W.drewN q) (.slice (some ⟨g, 0, none⟩) m c6) v7 (l.set p { x with Count := x.Count + 1 }, o) ∧ HSt w ((W.drewN q).setCell ⟨g, p * 6 + 5, none⟩ (.int .i64 1)) (.slice (some ⟨g, 0, none⟩) m c6) v7 (l.set p { x with Count := x.Count + 1, Is := 1 }, o) := by
  have hi := head_in hg
  unfold Good at hg
  have i1 : I64 (x.Count + 1) := by unfold I64; omega
  have i2 : I64 1 := by unfold I64; omega
  obtain ⟨a1, b1⟩ := h.set2 hk 2 (.int .i64 (x.Count + 1)) { x with Count := x.Count + 1 } (by decide) rfl ⟨hi.1, hi.2.1, i1, hi.2.2.2.1, hi.2.2.2.2.1, hi.2.2.2.2.2⟩
  rw [hW] at a1
  obtain ⟨-, ⟨-, -, z2, z3, -, z5⟩, hf, -⟩ := a1.at2 b1
  refine ⟨z2, z3, z5, hf _, fun q => ?_⟩
  have a2 := a1.keep (Go.Bk.Below.drewN (RowKit.Below.refl W.heap.size W) q)
  obtain ⟨a3, -⟩ := a2.set2 b1 5 (.int .i64 1) { x with Count := x.Count + 1, Is := 1 } (by decide) rfl ⟨hi.1, hi.2.1, i1, hi.2.2.2.1, hi.2.2.2.2.1, i2⟩
  rw [List.set_set] at a3
  exact ⟨a2, a3⟩
set_option maxRecDepth 100000 in
set_option maxHeartbeats 4000000 in
theorem aft_turn_known (P : Pre w wj hot L O fn at' kd gc a6 m c6 v7) (hkd : kd = 0) (hr : ¬ (fn < 0 ∨ 60 ≤ fn ∨ at' < 0 ∨ 600 ≤ at')) {x : Api.THead} (hc : cur L fn at' = some x) {p : Nat} (hp : p = posn L fn at') : Aft w wj hot L O fn at' kd gc v1 (.slice a6 m c6) v7 (.int .i64 p) v16 v17 v18 := by
  unfold Aft
  intros
  rename_i hK1
  have HK1 := Lib.hid hK1
  have HP := Lib.hid P
  have HTO : Hid (Own (fun _ => False) wj w.heap.size 3 v7 O) := P.st.told
  have hol := P.few
  have r0 := P.c0; have r1 := P.c1; have r2 := P.c2
  have d0 : (kd != 0) = false := by simp [hkd]
  obtain ⟨g, rfl, hgw, hgx, rfl, rfl, hxp, hpm⟩ := P.head hc
  rw [← hp] at hxp hpm
  have HT : Hid (stepL hot L x.Fn x.At kd = (L.set p (bump x).1, (bump x).2)) := by
    show _ = _
    rw [step_turn hkd]; unfold turnL; rw [if_neg hr, hc]; dsimp only
    rw [put_set P.inv.srt (x := (bump x).1) (y := x) (by rw [(bump_key x).1, (bump_key x).2]; exact hc), (bump_key x).1, (bump_key x).2, hp]
  have hdp : decide ((p : Int) < 0) = false := decide_eq_false (by omega)
  obtain ⟨-, ⟨y0, y1, y2, y3, y4, y5⟩, hfz, -⟩ := P.st.at2 hxp
  have f2 := hfz (p * 6 + 2)
  have hm100 : m ≤ 100 := by rw [P.len]; exact P.inv.few
  have e0 : decide (x.Fn < 0) = false := decide_eq_false (by omega)
  have e1 : decide (60 ≤ x.Fn) = false := decide_eq_false (by omega)
  have e2 : decide (x.At < 0) = false := decide_eq_false (by omega)
  have e3 : decide (600 ≤ x.At) = false := decide_eq_false (by omega)
  have HSX : Hid (L.set p x = L) := List.ext_getElem? fun i => by
    by_cases e : p = i
    · subst e; rw [List.getElem?_set_self (List.getElem?_eq_some_iff.1 hxp).1, hxp]
    · rw [List.getElem?_set_ne e]
  have hbt := bump_told hgx
  have HXP := Lib.hid hxp; have HGX := Lib.hid hgx
  have hgx2 := hgx
  unfold Good at hgx2
  by_cases hi1 : 1 < x.Is
  · have d1 : decide (1 < x.Is) = true := decide_eq_true hi1
    have HB : Hid (bump x = (x, x.Is)) := by show _ = _; rw [bump_eq hgx, if_pos hi1]
    have hi5 : I64 x.Is := (head_in hgx).2.2.2.2.2
    clear hkd hK1 P hc hgx hxp hp hr hgx2 hi1 hbt hfz
    conv => arg 2; whnf
    go_wp2_with (at_builtin; (at_builtin; with_reducible refine Try.wp_appd23 rfl rfl rfl rfl rfl (by first | rfl | simp) (HTO.out) (int_cells hi5 _ _) (fun _ h => h.elim) (by omega) (by exact HP.out.st.below.size) fun v' w' hown' hg' hst' => ?_); have HQ := Lib.hid (HP.out.st.push hown' hg' hst'); clear hown' hg' hst')
    apply HK1.out
    exact ⟨_, _, HT.out, by rw [HB.out]; rw [HSX.out]; exact HQ.out⟩
  · have d1 : decide (1 < x.Is) = false := decide_eq_false hi1
    by_cases hi0 : x.Is = 0
    · have d2 : (x.Is == 0) = true := by simp [hi0]
      have hb1 : 0 ≤ x.Count := by omega
      have hb2 : x.Count ≤ 8000 := by omega
      have HBS : Hid (∀ W, wj.setCell ⟨g, p * 6 + 2, none⟩ (.int .i64 (x.Count + 1)) = W → W.cell? ⟨g, p * 6 + 2, none⟩ = some (.int .i64 (x.Count + 1)) ∧ W.cell? ⟨g, p * 6 + 3, none⟩ = some (.int .i64 x.Limit) ∧ W.cell? ⟨g, p * 6 + 5, none⟩ = some (.int .i64 x.Is) ∧ W.frozen? ⟨g, p * 6 + 5, none⟩ = false ∧
          ∀ q, HSt w (W.drewN q) (.slice (some ⟨g, 0, none⟩) m c6) v7 (L.set p { x with Count := x.Count + 1 }, O) ∧ HSt w ((W.drewN q).setCell ⟨g, p * 6 + 5, none⟩ (.int .i64 1)) (.slice (some ⟨g, 0, none⟩) m c6) v7 (L.set p { x with Count := x.Count + 1, Is := 1 }, O)) := fun W hW => bump_stores P.st hxp hgx hi0 hW
      have HB0 := Lib.hid (bump_eq hgx)
      have H01 : Hid (¬ 1 < x.Is ∧ x.Is = 0) := ⟨hi1, hi0⟩
      have HI : Hid (I64 0 ∧ I64 1) := ⟨by unfold I64; omega, by unfold I64; omega⟩
      clear hkd hK1 P hc hgx hxp hp hr hgx2 hi1 hi0 hbt hfz
      conv => arg 2; whnf
      go_upto_region 40 with fail
      generalize hwq : wj.setCell ⟨g, p * 6 + 2, none⟩ (.int .i64 (x.Count + 1)) = wq
      obtain ⟨s2, s3, s5, sf, hss⟩ := HBS.out _ hwq
      have HSS := Lib.hid hss
      clear hwq hss y0 y1 y2 y3 y4 y5 f2 r0 r1 r2
      by_cases hcl : x.Count + 1 = x.Limit
      · have d3 : (x.Count + 1 == x.Limit) = true := by simp [hcl]
        have HB : Hid (bump x = ({ x with Count := x.Count + 1, Is := 1 }, 1)) := by show _ = _; rw [HB0.out, if_neg H01.out.1, if_pos H01.out.2, if_pos hcl]
        clear hcl
        go_quiet (fail)
        obtain ⟨q, hq⟩ : ∃ q, q = nq := ⟨_, rfl⟩
        rw [← hq]
        obtain ⟨hs1, hs2⟩ := HSS.out q
        have HS2 := Lib.hid hs2
        have HTO2 : Hid (Own (fun _ => False) ((wq.drewN q).setCell ⟨g, p * 6 + 5, none⟩ (.int .i64 1)) w.heap.size 3 v7 O) := hs2.told
        have hi5 := HI.out.2
        clear hs1 hs2 hq
        go_wp2_with (at_builtin; (at_builtin; with_reducible refine Try.wp_appd23 rfl rfl rfl rfl rfl (by first | rfl | simp) (HTO2.out) (int_cells hi5 _ _) (fun _ h => h.elim) (by omega) (by exact HS2.out.below.size) fun v' w' hown' hg' hst' => ?_); have HQ := Lib.hid (HS2.out.push hown' hg' hst'); clear hown' hg' hst')
        apply HK1.out
        exact ⟨_, _, HT.out, by rw [HB.out]; exact HQ.out⟩
      · have d3 : (x.Count + 1 == x.Limit) = false := by simp [hcl]
        have HB : Hid (bump x = ({ x with Count := x.Count + 1 }, 0)) := by show _ = _; rw [HB0.out, if_neg H01.out.1, if_pos H01.out.2, if_neg hcl]
        clear hcl
        go_quiet (fail)
        obtain ⟨q, hq⟩ : ∃ q, q = nq := ⟨_, rfl⟩
        rw [← hq]
        obtain ⟨hs1, hs2⟩ := HSS.out q
        have HS2 := Lib.hid hs1
        have HTO2 : Hid (Own (fun _ => False) (wq.drewN q) w.heap.size 3 v7 O) := hs1.told
        have hi5 := HI.out.1
        clear hs1 hs2 hq
        go_wp2_with (at_builtin; (at_builtin; with_reducible refine Try.wp_appd23 rfl rfl rfl rfl rfl (by first | rfl | simp) (HTO2.out) (int_cells hi5 _ _) (fun _ h => h.elim) (by omega) (by exact HS2.out.below.size) fun v' w' hown' hg' hst' => ?_); have HQ := Lib.hid (HS2.out.push hown' hg' hst'); clear hown' hg' hst')
        apply HK1.out
        exact ⟨_, _, HT.out, by rw [HB.out]; exact HQ.out⟩
    · have d2 : (x.Is == 0) = false := by simp [hi0]
      have HB : Hid (bump x = (x, 0)) := by show _ = _; rw [bump_eq hgx, if_neg hi1, if_neg hi0]
      have hi5 : I64 0 := by unfold I64; omega
      clear hkd hK1 P hc hgx hxp hp hr hgx2 hi1 hi0 hbt hfz
      conv => arg 2; whnf
      go_wp2_with (at_builtin; (at_builtin; with_reducible refine Try.wp_appd23 rfl rfl rfl rfl rfl (by first | rfl | simp) (HTO.out) (int_cells hi5 _ _) (fun _ h => h.elim) (by omega) (by exact HP.out.st.below.size) fun v' w' hown' hg' hst' => ?_); have HQ := Lib.hid (HP.out.st.push hown' hg' hst'); clear hown' hg' hst')
      apply HK1.out
      exact ⟨_, _, HT.out, by rw [HB.out]; rw [HSX.out]; exact HQ.out⟩
end
end Go.Proofs.Ytjlnaiiajlahgaa.heat
