/- Lines that run: the map of variables, walked. -/
import Derived.Test.YtimlhjjdaggiiaaLineB
import Derived.Test.YtimlhjjdaggiiaaMap
set_option linter.unusedVariables false
set_option linter.unusedSimpArgs false
namespace Go.Proofs.Ytimlhjjdaggiiaa.line
open Go.Bk Go.RowKit

theorem zero_int (w : World) : (zeroValue 3).run Try.prog w = .ok (.int .i64 0) w := by kernel_rfl
theorem under_int : Try.prog.underlying 3 = some (.int .i64) := by kernel_rfl
theorem under_vars : Try.prog.underlying 199 = some (.map 3 3) := by kernel_rfl
theorem under_map : Try.prog.underlying 164 = some (.map 3 3) := by kernel_rfl
theorem I64.wrap (z : Int) : I64 (wrap64 z) := by unfold I64 wrap64; omega
theorem wrap_eq (z : Int) : IntKind.i64.wrap z = wrap64 z := by first | rfl | (rw [IntKind.wrap_i64]; rfl) | (rw [IntKind.wrap_i64]; unfold wrap64; omega)
abbrev Vars (w : World) (g n : Nat) (f : Int → Option Int) : Prop := IMap Try.prog 3 3 w g n f

theorem Vars.boxed {w : World} {g n : Nat} {f : Int → Option Int} (h : Vars w g n f) (b : Obj) : Vars (w.alloc b) g n f := IMap.below h ((Below.refl _ _).alloc (Nat.le_refl _) _)
theorem grown_box {w w' : World} {b : Obj} {r : Option Nat} (h : (w.alloc b).grownBy w' r) : w.grownBy w' r := by
  refine ⟨h.os, h.tape, h.output, Nat.le_trans (by simp) h.size, fun k hk hne => ?_⟩
  rw [h.block k (by simp; omega) hne]
  exact Below.heap_alloc _ _ _ hk

theorem drew_grown {w w' : World} {n : Nat} {r : Option Nat} (h : (w.drewN n).grownBy w' r) : w.grownBy w' r := ⟨h.os, h.tape, h.output, h.size, h.block⟩
set_option maxRecDepth 100000 in
set_option maxHeartbeats 1000000 in
theorem do_any {w : World} {g n : Nat} {f : Int → Option Int} {x : Api.DLet} (h : Vars w g n f) (hn : n < 1000000000) (g1 : I64 x.To) (g2 : I64 x.Op) (g3 : I64 x.A) (g4 : I64 x.B) :
    Calls Try.prog 119 #[.map (some g), letV x] w fun e w' => e = .returned (.tuple #[]) ∧ Vars w' g (n + 1) (fun k => if k = x.To then some (opVal x ((f x.A).getD 0) ((f x.B).getD 0)) else f k) ∧ w.grownBy w' (some g) := by
  have HM := Lib.hid h
  unfold letV
  go_enter Try.func119, Try.ntmps119
  go_wp2_with fail
  obtain ⟨wb, hwb⟩ : ∃ wb, wb = w.alloc (Obj.cells #[.int .i64 x.To, .int .i64 x.Op, .int .i64 x.A, .int .i64 x.B] 112) := ⟨_, rfl⟩
  rw [← hwb]
  have HM1 : Hid (Vars wb g n f) := by rw [hwb]; exact HM.out.boxed _
  have hc : ∀ b o, w.heap.size = b → wb.cell? ⟨b, o, none⟩ = #[Value.int .i64 x.To, .int .i64 x.Op, .int .i64 x.A, .int .i64 x.B][o]? := fun b o hb => by subst hb hwb; simp only [World.cell?]; rw [heap_alloc_new]; rfl
  have c0 : wb.cell? ⟨w.heap.size, 0, none⟩ = some (.int .i64 x.To) := hc _ 0 rfl
  have c1 : wb.cell? ⟨w.heap.size, 1, none⟩ = some (.int .i64 x.Op) := hc _ 1 rfl
  have c2 : wb.cell? ⟨w.heap.size, 2, none⟩ = some (.int .i64 x.A) := hc _ 2 rfl
  have c3 : wb.cell? ⟨w.heap.size, 3, none⟩ = some (.int .i64 x.B) := hc _ 3 rfl
  have hgr : ∀ w', wb.grownBy w' (some g) → w.grownBy w' (some g) := fun w' h => by subst hwb; exact grown_box h
  have HGR := Lib.hid hgr
  have r1 : ∀ k, (Instr.lookup 199 (.map (some g)) (.int .i64 x.A) false).run Try.prog (wb.drewN k) = .ok (.int .i64 ((f x.A).getD 0)) (wb.drewN k) := fun k => IMap.get (HM1.out.block (w' := wb.drewN k) rfl) under_int under_int under_vars (zero_int _) g3
  have r2 : ∀ k, (Instr.lookup 199 (.map (some g)) (.int .i64 x.B) false).run Try.prog (wb.drewN k) = .ok (.int .i64 ((f x.B).getD 0)) (wb.drewN k) := fun k => IMap.get (HM1.out.block (w' := wb.drewN k) rfl) under_int under_int under_vars (zero_int _) g4
  clear hc hgr hwb h
  first | (refine wp_region_quiet_lit (by kernel_rfl) (by kernel_rfl) ?_; (repeat (go_big_quiet_step (fail))); refine wpQuiet_nil ?_; intro _ hw'; obtain ⟨nq, hw''⟩ := hw'; subst hw'')
  clear r1 r2
  by_cases h0 : x.Op = 0
  · have hd : (x.Op == 0) = true := by simpa using h0
    have HV : Hid (opVal x ((f x.A).getD 0) ((f x.B).getD 0) = wrap64 ((f x.A).getD 0 + (f x.B).getD 0)) := by show _ = _; unfold opVal; rw [if_pos h0]; exact wrap_eq _
    clear h0
    go_wp2_with (with_reducible refine wp_imap_put rfl rfl under_int under_int under_vars rfl (HM1.out.block (w' := wb.drewN nq) rfl) hn rfl rfl g1 (I64.wrap _) fun w' hm' hg' => ?_)
    (try simp only [Exit.inBlock, Exit.then]); refine bodyPost_end (results_none rfl _ _ _) rfl ?_
    exact ⟨rfl, hm'.congr (fun k => by rw [HV.out]), HGR.out _ (drew_grown hg')⟩
  have hd : (x.Op == 0) = false := by simpa using h0
  by_cases h1 : x.Op = 1
  · have hd1 : (x.Op == 1) = true := by simpa using h1
    have HV : Hid (opVal x ((f x.A).getD 0) ((f x.B).getD 0) = wrap64 ((f x.A).getD 0 - (f x.B).getD 0)) := by show _ = _; unfold opVal; rw [if_neg h0, if_pos h1]; exact wrap_eq _
    clear h0 h1
    go_wp2_with (with_reducible refine wp_imap_put rfl rfl under_int under_int under_vars rfl (HM1.out.block (w' := wb.drewN nq) rfl) hn rfl rfl g1 (I64.wrap _) fun w' hm' hg' => ?_)
    (try simp only [Exit.inBlock, Exit.then]); refine bodyPost_end (results_none rfl _ _ _) rfl ?_
    exact ⟨rfl, hm'.congr (fun k => by rw [HV.out]), HGR.out _ (drew_grown hg')⟩
  have hd1 : (x.Op == 1) = false := by simpa using h1
  by_cases h2 : x.Op = 2
  · have hd2 : (x.Op == 2) = true := by simpa using h2
    have HV : Hid (opVal x ((f x.A).getD 0) ((f x.B).getD 0) = wrap64 ((f x.A).getD 0 * (f x.B).getD 0)) := by show _ = _; unfold opVal; rw [if_neg h0, if_neg h1, if_pos h2]; exact wrap_eq _
    clear h0 h1 h2
    go_wp2_with (with_reducible refine wp_imap_put rfl rfl under_int under_int under_vars rfl (HM1.out.block (w' := wb.drewN nq) rfl) hn rfl rfl g1 (I64.wrap _) fun w' hm' hg' => ?_)
    (try simp only [Exit.inBlock, Exit.then]); refine bodyPost_end (results_none rfl _ _ _) rfl ?_
    exact ⟨rfl, hm'.congr (fun k => by rw [HV.out]), HGR.out _ (drew_grown hg')⟩
  have hd2 : (x.Op == 2) = false := by simpa using h2
  have HV : Hid (opVal x ((f x.A).getD 0) ((f x.B).getD 0) = x.A) := by show _ = _; unfold opVal; rw [if_neg h0, if_neg h1, if_neg h2]
  clear h0 h1 h2
  go_wp2_with (with_reducible refine wp_imap_put rfl rfl under_int under_int under_vars rfl (HM1.out.block (w' := wb.drewN nq) rfl) hn rfl rfl g1 g3 fun w' hm' hg' => ?_)
  (try simp only [Exit.inBlock, Exit.then]); refine bodyPost_end (results_none rfl _ _ _) rfl ?_
  exact ⟨rfl, hm'.congr (fun k => by rw [HV.out]), HGR.out _ (drew_grown hg')⟩
end Go.Proofs.Ytimlhjjdaggiiaa.line
