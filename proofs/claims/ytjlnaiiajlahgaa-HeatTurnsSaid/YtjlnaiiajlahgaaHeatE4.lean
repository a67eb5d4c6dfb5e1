/- HeatTurns: Heads of the document: a round's ways where a turn is told: out of range, too many. -/
import Derived.Test.YtjlnaiiajlahgaaHeatE2
set_option linter.unusedVariables false
set_option linter.unusedSimpArgs false
namespace Go.Proofs.Ytjlnaiiajlahgaa.heat
open Go.Bk Go.RowKit Go.Maps

section
variable {w wj : World} {hot : Int} {L : List Api.THead} {O : List Int} {fn at' kd : Int} {gc m c6 : Nat} {a6 : Option Addr} {v1 v7 v16 v17 v18 : Value}
set_option maxRecDepth 100000 in
set_option maxHeartbeats 4000000 in
theorem aft_out1 (P : Pre w wj hot L O fn at' kd gc a6 m c6 v7) (hkd : kd = 0)  (hp : fn < 0) {q : Int} : Aft w wj hot L O fn at' kd gc v1 (.slice a6 m c6) v7 (.int .i64 q) v16 v17 v18 := by
  unfold Aft
  intros
  rename_i hK1
  have HK1 := Lib.hid hK1
  have HP := Lib.hid P
  have HTO : Hid (Own (fun _ => False) wj w.heap.size 3 v7 O) := P.st.told
  have hol := P.few
  have r0 := P.c0; have r1 := P.c1; have r2 := P.c2
  have d0 : (kd != 0) = false := by simp [hkd]
  have HT : Hid (stepL hot L fn at' kd = (L, -1)) := by show _ = _; rw [step_turn hkd]; unfold turnL; rw [if_pos (by omega)]
  have hi5 : I64 (-1) := by unfold I64; omega
  have eh : decide (fn < 0) = true := decide_eq_true hp
  clear hkd hK1 P  hp
  conv => arg 2; whnf
  go_wp2_with (at_builtin; (at_builtin; with_reducible refine Try.wp_appd23 rfl rfl rfl rfl rfl (by first | rfl | simp) (HTO.out) (int_cells hi5 _ _) (fun _ h => h.elim) (by omega) (by exact HP.out.st.below.size) fun v' w' hown' hg' hst' => ?_); have HQ := Lib.hid (HP.out.st.push hown' hg' hst'); clear hown' hg' hst')
  apply HK1.out
  exact ⟨_, _, HT.out, HQ.out⟩
set_option maxRecDepth 100000 in
set_option maxHeartbeats 4000000 in
theorem aft_out2 (P : Pre w wj hot L O fn at' kd gc a6 m c6 v7) (hkd : kd = 0) (n0 : ¬ fn < 0) (hp : 60 ≤ fn) {q : Int} : Aft w wj hot L O fn at' kd gc v1 (.slice a6 m c6) v7 (.int .i64 q) v16 v17 v18 := by
  unfold Aft
  intros
  rename_i hK1
  have HK1 := Lib.hid hK1
  have HP := Lib.hid P
  have HTO : Hid (Own (fun _ => False) wj w.heap.size 3 v7 O) := P.st.told
  have hol := P.few
  have r0 := P.c0; have r1 := P.c1; have r2 := P.c2
  have d0 : (kd != 0) = false := by simp [hkd]
  have HT : Hid (stepL hot L fn at' kd = (L, -1)) := by show _ = _; rw [step_turn hkd]; unfold turnL; rw [if_pos (by omega)]
  have hi5 : I64 (-1) := by unfold I64; omega
  have e0 : decide (fn < 0) = false := decide_eq_false n0
  have eh : decide (60 ≤ fn) = true := decide_eq_true hp
  clear hkd hK1 P n0 hp
  conv => arg 2; whnf
  go_wp2_with (at_builtin; (at_builtin; with_reducible refine Try.wp_appd23 rfl rfl rfl rfl rfl (by first | rfl | simp) (HTO.out) (int_cells hi5 _ _) (fun _ h => h.elim) (by omega) (by exact HP.out.st.below.size) fun v' w' hown' hg' hst' => ?_); have HQ := Lib.hid (HP.out.st.push hown' hg' hst'); clear hown' hg' hst')
  apply HK1.out
  exact ⟨_, _, HT.out, HQ.out⟩
set_option maxRecDepth 100000 in
set_option maxHeartbeats 4000000 in
theorem aft_out3 (P : Pre w wj hot L O fn at' kd gc a6 m c6 v7) (hkd : kd = 0) (n0 : ¬ fn < 0) (n1 : ¬ 60 ≤ fn) (hp : at' < 0) {q : Int} : Aft w wj hot L O fn at' kd gc v1 (.slice a6 m c6) v7 (.int .i64 q) v16 v17 v18 := by
  unfold Aft
  intros
  rename_i hK1
  have HK1 := Lib.hid hK1
  have HP := Lib.hid P
  have HTO : Hid (Own (fun _ => False) wj w.heap.size 3 v7 O) := P.st.told
  have hol := P.few
  have r0 := P.c0; have r1 := P.c1; have r2 := P.c2
  have d0 : (kd != 0) = false := by simp [hkd]
  have HT : Hid (stepL hot L fn at' kd = (L, -1)) := by show _ = _; rw [step_turn hkd]; unfold turnL; rw [if_pos (by omega)]
  have hi5 : I64 (-1) := by unfold I64; omega
  have e0 : decide (fn < 0) = false := decide_eq_false n0
  have e1 : decide (60 ≤ fn) = false := decide_eq_false n1
  have eh : decide (at' < 0) = true := decide_eq_true hp
  clear hkd hK1 P n0 n1 hp
  conv => arg 2; whnf
  go_wp2_with (at_builtin; (at_builtin; with_reducible refine Try.wp_appd23 rfl rfl rfl rfl rfl (by first | rfl | simp) (HTO.out) (int_cells hi5 _ _) (fun _ h => h.elim) (by omega) (by exact HP.out.st.below.size) fun v' w' hown' hg' hst' => ?_); have HQ := Lib.hid (HP.out.st.push hown' hg' hst'); clear hown' hg' hst')
  apply HK1.out
  exact ⟨_, _, HT.out, HQ.out⟩
set_option maxRecDepth 100000 in
set_option maxHeartbeats 4000000 in
theorem aft_out4 (P : Pre w wj hot L O fn at' kd gc a6 m c6 v7) (hkd : kd = 0) (n0 : ¬ fn < 0) (n1 : ¬ 60 ≤ fn) (n2 : ¬ at' < 0) (hp : 600 ≤ at') {q : Int} : Aft w wj hot L O fn at' kd gc v1 (.slice a6 m c6) v7 (.int .i64 q) v16 v17 v18 := by
  unfold Aft
  intros
  rename_i hK1
  have HK1 := Lib.hid hK1
  have HP := Lib.hid P
  have HTO : Hid (Own (fun _ => False) wj w.heap.size 3 v7 O) := P.st.told
  have hol := P.few
  have r0 := P.c0; have r1 := P.c1; have r2 := P.c2
  have d0 : (kd != 0) = false := by simp [hkd]
  have HT : Hid (stepL hot L fn at' kd = (L, -1)) := by show _ = _; rw [step_turn hkd]; unfold turnL; rw [if_pos (by omega)]
  have hi5 : I64 (-1) := by unfold I64; omega
  have e0 : decide (fn < 0) = false := decide_eq_false n0
  have e1 : decide (60 ≤ fn) = false := decide_eq_false n1
  have e2 : decide (at' < 0) = false := decide_eq_false n2
  have eh : decide (600 ≤ at') = true := decide_eq_true hp
  clear hkd hK1 P n0 n1 n2 hp
  conv => arg 2; whnf
  go_wp2_with (at_builtin; (at_builtin; with_reducible refine Try.wp_appd23 rfl rfl rfl rfl rfl (by first | rfl | simp) (HTO.out) (int_cells hi5 _ _) (fun _ h => h.elim) (by omega) (by exact HP.out.st.below.size) fun v' w' hown' hg' hst' => ?_); have HQ := Lib.hid (HP.out.st.push hown' hg' hst'); clear hown' hg' hst')
  apply HK1.out
  exact ⟨_, _, HT.out, HQ.out⟩
set_option maxRecDepth 100000 in
set_option maxHeartbeats 4000000 in
theorem aft_full (P : Pre w wj hot L O fn at' kd gc a6 m c6 v7) (hkd : kd = 0) (hr : ¬ (fn < 0 ∨ 60 ≤ fn ∨ at' < 0 ∨ 600 ≤ at')) (hc : cur L fn at' = none) (hm : 100 ≤ m) : Aft w wj hot L O fn at' kd gc v1 (.slice a6 m c6) v7 (.int .i64 (-1)) v16 v17 v18 := by
  unfold Aft
  intros
  rename_i hK1
  have HK1 := Lib.hid hK1
  have HP := Lib.hid P
  have HTO : Hid (Own (fun _ => False) wj w.heap.size 3 v7 O) := P.st.told
  have hol := P.few
  have r0 := P.c0; have r1 := P.c1; have r2 := P.c2
  have d0 : (kd != 0) = false := by simp [hkd]
  have HT : Hid (stepL hot L fn at' kd = (L, -2)) := by show _ = _; rw [step_turn hkd]; unfold turnL; rw [if_neg hr, hc]; dsimp only; rw [if_pos (by rw [← P.len]; exact hm)]
  have hi5 : I64 (-2) := by unfold I64; omega
  have e0 : decide (fn < 0) = false := decide_eq_false (by omega)
  have e1 : decide (60 ≤ fn) = false := decide_eq_false (by omega)
  have e2 : decide (at' < 0) = false := decide_eq_false (by omega)
  have e3 : decide (600 ≤ at') = false := decide_eq_false (by omega)
  have e4 : decide ((100 : Int) ≤ (m : Int)) = true := decide_eq_true (by omega)
  clear hkd hK1 P hr hc hm
  conv => arg 2; whnf
  go_wp2_with (at_builtin; (at_builtin; with_reducible refine Try.wp_appd23 rfl rfl rfl rfl rfl (by first | rfl | simp) (HTO.out) (int_cells hi5 _ _) (fun _ h => h.elim) (by omega) (by exact HP.out.st.below.size) fun v' w' hown' hg' hst' => ?_); have HQ := Lib.hid (HP.out.st.push hown' hg' hst'); clear hown' hg' hst')
  apply HK1.out
  exact ⟨_, _, HT.out, HQ.out⟩
end
end Go.Proofs.Ytjlnaiiajlahgaa.heat
