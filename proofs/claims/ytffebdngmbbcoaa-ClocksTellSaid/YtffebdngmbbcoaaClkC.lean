/- ClocksEdges: an event comes: walked. -/
import Derived.Test.YtffebdngmbbcoaaClkB
set_option linter.unusedVariables false
set_option linter.unusedSimpArgs false
namespace Go.Proofs.Ytffebdngmbbcoaa.clk
open Go.Bk Go.RowKit Go.Maps Go.Proofs.Ytffebdngmbbcoaa.lock

theorem lastT_lt {l : List Api.Event} {k i : Nat} {t : Int} (hk : k ≤ l.length) (h : lastT l k t = some i) : i < k := ((lastP_spec hk).1 h).1
theorem overT_lt {l : List Api.Event} {k i : Nat} {t : Int} (hk : k ≤ l.length) (h : overT l k t = some i) : i < k := ((lastP_spec hk).1 h).1
theorem grown_drew0 {w w' : World} {r : Option Nat} (h : w.drew.grownBy w' r) : w.grownBy w' r := ⟨h.os, h.tape, h.output, h.size, h.block⟩
theorem stay_drew0 {w : World} {v v' : Value} (h : Stay w.drew v v') : Stay w v v' := h
set_option maxRecDepth 100000 in
set_option maxHeartbeats 8000000 in
theorem event_any {W w : World} {tag : Nat → Nat} {gw m0 m1 m2 m3 k : Nat} {f1 f3 : Int → Option Value} {v : Value} {l : List Api.Event} {x : Api.Event}
    (h : WS W w tag gw m0 m1 m2 m3 (2 * k) (lastT l k) (overT l k) f1 f3 (spawnT l k) (freeT l k) v (outE l k)) (hx : l[k]? = some x) (hk : k < 200) (hl : l.length ≤ 200) (hT : I64 x.Thread) (hA : I64 x.A) :
    Calls Try.prog 52 #[.pointer (some ⟨gw, 0, none⟩), .int .i64 (k : Nat), .agg (evC x).toArray] w (EvPost W gw m0 m1 m2 m3 (2 * (k + 1)) (lastT l (k + 1)) (overT l (k + 1)) (spawnT l (k + 1)) (freeT l (k + 1)) (outE l (k + 1))) := by
  have hkl : k ≤ l.length := by have := (List.getElem?_eq_some_iff.1 hx).1; omega
  have HKL := Lib.hid hkl
  have HOL : Hid ((outE l k).length ≤ 100000) := by
    show _ ≤ _
    have h1 := outE_len l 200 k (by omega)
    have h2 : k * (2 + 2 * 200) ≤ 200 * (2 + 2 * 200) := Nat.mul_le_mul_right _ (by omega)
    omega
  have HSL : Hid (∀ t, (spawnT l k t).length ≤ k) := fun t => since_len _ _ _ _
  have HFL : Hid (∀ t, (freeT l k t).length ≤ k) := fun t => since_len _ _ _ _
  have HSI : Hid (∀ t, ∀ i ∈ spawnT l k t, i < 1000000) := fun t i hi => by have := since_lt hkl hi; omega
  have HFI : Hid (∀ t, ∀ i ∈ freeT l k t, i < 1000000) := fun t i hi => by have := since_lt hkl hi; omega
  have HLT : Hid (∀ t i, lastT l k t = some i → i < k) := fun t i hi => lastT_lt hkl hi
  have HOT : Hid (∀ t i, overT l k t = some i → i < k) := fun t i hi => overT_lt hkl hi
  have HX := Lib.hid hx
  have HT : Hid (intKey.good x.Thread) := hT
  have HAG : Hid (intKey.good x.A) := hA
  have HCS0 := Lib.hid (CS.start h x)
  have hgs : w.heap.size < (w.alloc (.cells (evC x).toArray 70)).heap.size := by simp
  clear h hx hkl hT hA
  go_enter Try.func52, Try.ntmps52
  go_upto_region 1 with fail
  refine cut_wp (fun wz => ∃ tag f1 f3 v, CS W wz gw m0 m1 m2 m3 (2 * k) (lastT l k) (overT l k) (spawnT l k) (freeT l k) (outE l k) w.heap.size x tag f1 f3 v) ⟨_, _, _, _, HCS0.out⟩ ?_
  rintro w1 ⟨tag1, g1, g3, v1, hcs⟩
  have HCS := Lib.hid hcs
  obtain ⟨gb, hgb⟩ : ∃ g, g = w.heap.size := ⟨_, rfl⟩
  rw [← hgb] at HCS ⊢
  clear hcs HCS0 hgs hgb
  have a0 := HCS.out.ws.box.blk.cell (j := 0) rfl
  have b2 := HCS.out.ev.blk.cell (j := 2) rfl
  have r1 : ∀ n, (Instr.lookup 100 (.map (some m0)) (.int .i64 x.Thread) true).run Try.prog (w1.drewN n) = .ok (.tuple #[(natV (lastT l k x.Thread)).getD (.int .i64 0), .bool (natV (lastT l k x.Thread)).isSome]) (w1.drewN n) := fun n => by
    have h1 := (HCS.out.quiet ⟨n, rfl⟩).ws.last.map.look true Try.underlying100 (zero_int _) HT.out
    exact h1
  obtain ⟨R6, hR6⟩ : ∃ R, R = (natV (lastT l k x.Thread)).getD (.int .i64 0) := ⟨_, rfl⟩
  obtain ⟨R7, hR7⟩ : ∃ R, R = (natV (lastT l k x.Thread)).isSome := ⟨_, rfl⟩
  rw [← hR6, ← hR7] at r1
  have HR6 := Lib.hid hR6; have HR7 := Lib.hid hR7
  clear hR6 hR7
  first | (refine wp_region_quiet_lit (by kernel_rfl) (by kernel_rfl) ?_; (repeat (go_big_quiet_step (fail))); refine wpQuiet_nil ?_; intro _ hw'; obtain ⟨nq, hw''⟩ := hw'; subst hw'')
  have HCS := Lib.hid (HCS.out.quiet ⟨nq, rfl⟩)
  clear r1 a0 b2
  obtain ⟨w2, hw2⟩ : ∃ w2 : World, w2 = w1.drewN nq := ⟨_, rfl⟩
  rw [← hw2] at HCS ⊢
  clear hw2
  go_upto_if 20 with fail
  go_cut [] (fun wz => ∃ tag f1 f3 v, CS W wz gw m0 m1 m2 m3 (2 * k) (lastT l k) (overT l k) (spawnT l k) (freeT l k) (outE l k ++ prs (lastT l k x.Thread).toList k) gb x tag f1 f3 v)
  case first =>
    cases hlt : lastT l k x.Thread with
    | none =>
      have e7 : R7 = false := by rw [HR7.out, hlt]; rfl
      subst e7
      have HQ : Hid (outE l k ++ prs (lastT l k x.Thread).toList k = outE l k) := by show _ = _; rw [hlt]; simp [prs]
      clear hlt
      go_wp2
      go_meet
      exact ⟨_, _, _, _, by rw [HQ.out]; exact HCS.out⟩
    | some i =>
      have e7 : R7 = true := by rw [HR7.out, hlt]; rfl
      have e6 : R6 = .int .i64 (i : Nat) := by rw [HR6.out, hlt]; rfl
      have hik := HLT.out _ _ hlt
      subst e7 e6
      have HE := Lib.hid (edge_any HCS.out.ws (i := (i : Int)) (j := (k : Int)) (by have := HOL.out; omega) (by unfold I64; omega) (by unfold I64; omega))
      have HQ : Hid (outE l k ++ prs (lastT l k x.Thread).toList k = outE l k ++ [⟨(i : Int), (k : Int)⟩]) := by show _ = _; rw [hlt]; rfl
      clear hlt
      go_wp2_with fail
      refine HE.out.mono ?_
      rintro e w3 hp
      have HP := Lib.hid (HCS.out.edges hp)
      obtain ⟨rfl, -⟩ := hp
      clear HE
      go_wp2_with fail
      go_meet
      obtain ⟨tag', v', hcs⟩ := HP.out
      exact ⟨_, _, _, _, by rw [HQ.out]; exact hcs⟩
  case rest =>
    obtain ⟨tag2, g1, g3, v2, hcs⟩ := hcut
    have HCS := Lib.hid hcs
    clear hcs
    obtain ⟨ps1, hps1⟩ : ∃ ps1, ps1 = outE l k ++ prs (lastT l k x.Thread).toList k := ⟨_, rfl⟩
    have HP1 : Hid (ps1.length ≤ 100001) := by
      show _ ≤ _
      have := HOL.out
      rw [hps1, List.length_append, prs_len]
      have : (lastT l k x.Thread).toList.length ≤ 1 := by cases lastT l k x.Thread <;> simp
      omega
    rw [← hps1] at HCS
    have HPS1 := Lib.hid hps1
    clear hps1
    have a1 := HCS.out.ws.box.blk.cell (j := 1) rfl
    have b2 := HCS.out.ev.blk.cell (j := 2) rfl
    obtain ⟨U, hU⟩ : ∃ U, U = (g1 x.Thread).getD (.slice none 0 0) := ⟨_, rfl⟩
    have r1 : (Instr.lookup 101 (.map (some m1)) (.int .i64 x.Thread) false).run Try.prog wc.drew = .ok U wc.drew := by
      have h1 := (HCS.out.quiet ⟨1, rfl⟩).ws.spawns.rows.map.look false Try.underlying101 (zero_list _) HT.out
      rw [hU]
      exact h1
    have HU := Lib.hid hU
    clear hU
    have HU2 : Hid (OwT tag2 2 wc.drew W.heap.size 3 U (natI (spawnT l k x.Thread))) := by
      have h1 := (HCS.out.quiet (w' := wc.drew) ⟨1, rfl⟩).ws.spawns
      refine ⟨?_, ?_⟩
      · rw [HU.out]; exact h1.rows.row x.Thread
      · rw [HU.out]; exact h1.marks x.Thread
    go_upto_region 4 with fail
    go_still_tail 9, (by kernel_rfl)
    change wpList _ _ _ _ _ wc.drew
    have HCS := Lib.hid (HCS.out.quiet (w' := wc.drew) ⟨1, rfl⟩)
    have HAL : Hid (Calls Try.prog 69 #[.pointer (some ⟨gw, 0, none⟩), U, .int .i64 (k : Nat)] wc.drew _) := all_any HCS.out.ws HU2.out (by omega) (by have := HP1.out; have := HSL.out x.Thread; omega) (HSI.out _) (by omega)
    clear r1 a1 b2
    go_wp2_with (go_at_call 69; go_loud ((with_reducible refine HAL.out.mono ?_); rintro e w3 hp; have HP := Lib.hid (HCS.out.edges hp); obtain ⟨rfl, -⟩ := hp))
    obtain ⟨tag3, v3, hcs⟩ := HP.out
    have HCS := Lib.hid hcs
    clear hcs HP HAL HU HU2
    obtain ⟨ps2, hps2⟩ : ∃ ps2, ps2 = ps1 ++ prs (spawnT l k x.Thread) k := ⟨_, rfl⟩
    have HP2 : Hid (ps2.length ≤ 100201) := by
      show _ ≤ _
      have := HP1.out
      have := HSL.out x.Thread
      rw [hps2, List.length_append, prs_len]
      omega
    rw [← hps2] at HCS
    have HPS2 := Lib.hid hps2
    clear hps2
    have a1 := HCS.out.ws.box.blk.cell (j := 1) rfl
    have b2 := HCS.out.ev.blk.cell (j := 2) rfl
    have HCD := Lib.hid (HCS.out.quiet (w' := w3.drew) ⟨1, rfl⟩)
    go_still_tail 6, (by kernel_rfl)
    change wpList _ _ _ _ _ w3.drew
    go_wp2_with (((with_reducible refine wp_gmap_del rfl rfl Try.underlying101 rfl HCD.out.ws.spawns.rows.map (k := x.Thread) (Eq.trans (b := .int .i64 x.Thread) rfl (intKey_val _)) HT.out fun w4 hm' hg' => ?_); have HCS := Lib.hid (HCD.out.del1 hm' hg'); clear hm' hg'))
    dsimp only [Act.put]
    clear HCD a1 b2
    have a0 := HCS.out.ws.box.blk.cell (j := 0) rfl
    have b2 := HCS.out.ev.blk.cell (j := 2) rfl
    have HCD := Lib.hid (HCS.out.quiet (w' := w4.drew) ⟨1, rfl⟩)
    go_still_tail 7, (by kernel_rfl)
    change wpList _ _ _ _ _ w4.drew
    go_upto_region 7 with (at_mapUpdate; (with_reducible refine wp_gmap_put rfl rfl Try.underlying100 rfl HCD.out.ws.last.map (by omega) (k := x.Thread) (Eq.trans (b := .int .i64 x.Thread) rfl (intKey_val _)) rfl HT.out fun w5 hm' hg' => ?_); have HCS := Lib.hid (HCD.out.put0 hm' hg'); clear hm' hg')
    clear HCD a0 b2
    have b0 := HCS.out.ev.blk.cell (j := 0) rfl
    have b6 := HCS.out.ev.blk.cell (j := 6) rfl
    obtain ⟨F1, hF1⟩ : ∃ F, F = (fun t => if t = x.Thread then none else g1 t) := ⟨_, rfl⟩
    obtain ⟨S1, hS1⟩ : ∃ S, S = (fun t => if t = x.Thread then [] else spawnT l k t) := ⟨_, rfl⟩
    obtain ⟨A0, hA0⟩ : ∃ A, A = (fun t => if t = x.Thread then some k else lastT l k t) := ⟨_, rfl⟩
    rw [← hF1, ← hS1, ← hA0] at HCS
    have HE0 : Hid (∀ t, A0 t = lastT l (k + 1) t) := fun t => by rw [hA0]; exact (lastT_succ HX.out t).symm
    have HE1 : Hid (∀ t, S1 t = if t = x.Thread then [] else spawnT l k t) := fun t => by rw [hS1]
    have HS1 : Hid (∀ t, (S1 t).length ≤ k) := fun t => by
      rw [hS1]
      have := HSL.out t
      show (if t = x.Thread then [] else spawnT l k t).length ≤ k
      split
      · simp
      · exact this
    clear hF1 hS1 hA0
    have HPE : Hid (ps2 = outE l k ++ prs (lastT l k x.Thread).toList k ++ prs (spawnT l k x.Thread) k) := by show _ = _; rw [HPS2.out, HPS1.out]
    have hcase : x.Kind = 11 ∨ x.Kind = 17 ∨ x.Kind = 12 ∨ x.Kind = 14 ∨ x.Kind = 13 ∨ (x.Kind ≠ 11 ∧ x.Kind ≠ 17 ∧ x.Kind ≠ 12 ∧ x.Kind ≠ 14 ∧ x.Kind ≠ 13) := by omega
    rcases hcase with h11 | h17 | h12 | h14 | h13 | ⟨h11, h17, h12, h14, h13⟩
    · have d11 : (x.Kind == 11) = true := by simp [h11]
      have a1 := HCS.out.ws.box.blk.cell (j := 1) rfl
      have HF2 : Hid (∀ t, overT l k t = overT l (k + 1) t) := fun t => by rw [overT_succ HX.out, if_neg (fun e => by omega)]
      have HF1 : Hid (∀ t, (if t = x.A then S1 t ++ [k] else S1 t) = spawnT l (k + 1) t) := fun t => by
        rw [spawnT_succ HX.out, ← HE1.out t]
        by_cases e : t = x.A
        · rw [if_pos e, if_pos ⟨h11, e⟩]
        · rw [if_neg e, if_neg (fun h => e h.2), List.append_nil]
      have HF3 : Hid (∀ t, freeT l k t = freeT l (k + 1) t) := fun t => by rw [freeT_succ HX.out, if_neg (fun e => by omega), if_neg (fun e => by omega), List.append_nil]
      have HFP : Hid (ps2 = outE l (k + 1)) := by
        show _ = _
        rw [HPE.out, outE_succ HX.out]
        unfold outAt
        rw [if_neg (by omega), if_neg (by omega), List.append_nil, List.append_nil, List.append_assoc]
      clear h11
      obtain ⟨U, hU⟩ : ∃ U, U = (F1 x.A).getD nilV := ⟨_, rfl⟩
      have r1 : (Instr.lookup 101 (.map (some m1)) (.int .i64 x.A) false).run Try.prog w5.drew = .ok U w5.drew := by
        have h1 := (HCS.out.quiet (w' := w5.drew) ⟨1, rfl⟩).ws.spawns.rows.map.look false Try.underlying101 (zero_list _) HAG.out
        rw [hU]
        exact h1
      have r2 : (Instr.lookup 101 (.map (some m1)) (.int .i64 x.A) false).run Try.prog (w5.alloc (.cells #[.int .i64 (k : Nat)] 3)).drew = .ok U (w5.alloc (.cells #[.int .i64 (k : Nat)] 3)).drew := by
        have hm := HCS.out.ws.spawns.rows.map
        have h1 := (hm.boxed (.cells #[.int .i64 (k : Nat)] 3)).quiet (w' := (w5.alloc (.cells #[.int .i64 (k : Nat)] 3)).drew) ⟨1, rfl⟩
        rw [hU]
        exact h1.look false Try.underlying101 (zero_list _) HAG.out
      have HU := Lib.hid hU
      clear hU
      have HOW : Hid (Own (fun _ => False) w5.drew W.heap.size 3 U (natI (S1 x.A))) := by
        have h1 := (HCS.out.quiet (w' := w5.drew) ⟨1, rfl⟩).ws.spawns
        show Own _ _ _ _ _ _
        rw [HU.out]; exact h1.rows.row x.A
      have hgw : gw < w5.heap.size := HCS.out.ws.box.blk.lt
      have hgbl : gb < w5.heap.size := HCS.out.ev.blk.lt
      have HU0 : Hid (U.ownBlock ≠ some gw ∧ U.ownBlock ≠ some gb ∧ U.ownBlock ≠ some m1) := by
        have h1 := HCS.out.ws.spawns
        rw [HU.out]
        refine ⟨fun e => ?_, fun e => ?_, h1.rows.off x.A⟩
        · have := h1.marks x.A gw e; rw [HCS.out.ws.box.mark] at this; omega
        · have := h1.marks x.A gb e; rw [HCS.out.ev.mark] at this; omega
      have HCI : Hid (Rep.cells (α := Int) (fun _ => False) w5.drew [.int .i64 (k : Nat)] (k : Int)) := ⟨rfl, by unfold I64; omega⟩
      have HLN : Hid ((natI (S1 x.A)).length ≤ 200) := by
        show _ ≤ _
        unfold natI
        rw [List.length_map]
        have := HS1.out x.A
        omega
      have hbs := HCS.out.ws.below.size
      have hal : ∀ (o : Obj) (b j : Nat), b < w5.heap.size → (w5.alloc o).cell? ⟨b, j, none⟩ = w5.cell? ⟨b, j, none⟩ := fun o b j h => ((Below.refl w5.heap.size w5).alloc (Nat.le_refl _) o).cell (p := ⟨b, j, none⟩) h
      go_wp2_with fail
      go_region_held3 (fun w' => w'.cell? ⟨gw, 1, none⟩ = some (.map (some m1)) ∧ w'.cell? ⟨gb, 6, none⟩ = some (.int .i64 x.A)) (first | exact ⟨a1, b6⟩ | exact ⟨(hal _ _ _ hgw).trans a1, (hal _ _ _ hgbl).trans b6⟩ | exact ⟨a1', b6'⟩ | exact ⟨a7, b7⟩)
        ((refine step_append1s (α := Int) (S := fun _ => False) (B := W.heap.size) (e := 3) (xs := natI (S1 x.A)) (y := (k : Int)) (cs := [.int .i64 (k : Nat)]) (w0 := w5.drew) (e' := 3) rfl rfl Try.underlying28 Try.infoRep28 (by decide) (by decide) (by simp [Act.eval, Act.put]) (g := w5.heap.size) (by simp [Act.eval, Act.put]) rfl rfl HOW.out HCI.out (fun _ h => h.elim) (by have := HLN.out; unfold maxLen; omega) (by have := HLN.out; omega) hbs ?_; intro u' w' hown' hg' hst'; have a1' := (Go.Bk.cell_grown (o := 1) hg' hgw HU0.out.1).trans a1; have b6' := (Go.Bk.cell_grown (o := 6) hg' hgbl HU0.out.2.1).trans b6; replace hg' := grown_drew0 hg'; replace hst' := stay_drew0 hst'; obtain ⟨w7, hrun, hm3, hg3⟩ := (HCS.out.ws.spawns.rows.map.kept (w' := w') hg' (Ne.symm HU0.out.2.2)).put_run Try.underlying101 (by omega) HAG.out u'; have hrun2 : (Instr.mapUpdate 101 (.map (some m1)) (.int .i64 x.A) u').run Try.prog w' = .ok () w7 := hrun; obtain ⟨tag7, hc7⟩ := HCS.out.put1 (t := x.A) (i := k) hown' (by rw [← HU.out]; exact hg') (by rw [← HU.out]; exact hst') hm3 hg3; have HCS2 := Lib.hid hc7; have a7 := hc7.ws.box.blk.cell (j := 1) rfl; have b7 := hc7.ev.blk.cell (j := 6) rfl; clear hown' hg' hst' hm3 hg3 hrun hc7))
      all_goals go_wp2_with fail
      all_goals exact bodyPost_end (results_none rfl _ _ _) rfl (EvPost.mk HCS2.out (by omega) HE0.out HF2.out HF1.out HF3.out HFP.out)
    · have d11 : (x.Kind == 11) = false := by simp [h17]
      have d17 : (x.Kind == 17) = true := by simp [h17]
      have a2 := HCS.out.ws.box.blk.cell (j := 2) rfl
      have b2 := HCS.out.ev.blk.cell (j := 2) rfl
      have HF2 : Hid (∀ t, (if t = x.Thread then some k else overT l k t) = overT l (k + 1) t) := fun t => by
        rw [overT_succ HX.out]
        by_cases e : t = x.Thread
        · rw [if_pos e, if_pos ⟨h17, e⟩]
        · rw [if_neg e, if_neg (fun h => e h.2)]
      have HF1 : Hid (∀ t, S1 t = spawnT l (k + 1) t) := fun t => by rw [spawnT_succ HX.out, ← HE1.out t, if_neg (fun e => by omega), List.append_nil]
      have HF3 : Hid (∀ t, freeT l k t = freeT l (k + 1) t) := fun t => by rw [freeT_succ HX.out, if_neg (fun e => by omega), if_neg (fun e => by omega), List.append_nil]
      have HFP : Hid (ps2 = outE l (k + 1)) := by
        show _ = _
        rw [HPE.out, outE_succ HX.out]
        unfold outAt
        rw [if_neg (by omega), if_neg (by omega), List.append_nil, List.append_nil, List.append_assoc]
      have HCD := Lib.hid (HCS.out.quiet (w' := w5.drew) ⟨1, rfl⟩)
      clear h17
      go_wp2_with fail
      go_still_tail 7, (by kernel_rfl)
      change wpList _ _ _ _ _ w5.drew
      go_wp2_with (at_mapUpdate; (with_reducible refine wp_gmap_put rfl rfl Try.underlying100 rfl HCD.out.ws.over.map (by omega) (k := x.Thread) (Eq.trans (b := .int .i64 x.Thread) rfl (intKey_val _)) rfl HT.out fun w6 hm' hg' => ?_); have HCS2 := Lib.hid (HCD.out.put2 hm' hg'); clear hm' hg')
      exact bodyPost_end (results_none rfl _ _ _) rfl (EvPost.mk HCS2.out (by omega) HE0.out HF2.out HF1.out HF3.out HFP.out)
    · have d11 : (x.Kind == 11) = false := by simp [h12]
      have d17 : (x.Kind == 17) = false := by simp [h12]
      have d12 : (x.Kind == 12) = true := by simp [h12]
      have a2 := HCS.out.ws.box.blk.cell (j := 2) rfl
      have HF2 : Hid (∀ t, overT l k t = overT l (k + 1) t) := fun t => by rw [overT_succ HX.out, if_neg (fun e => by omega)]
      have HF1 : Hid (∀ t, S1 t = spawnT l (k + 1) t) := fun t => by rw [spawnT_succ HX.out, ← HE1.out t, if_neg (fun e => by omega), List.append_nil]
      have HF3 : Hid (∀ t, freeT l k t = freeT l (k + 1) t) := fun t => by rw [freeT_succ HX.out, if_neg (fun e => by omega), if_neg (fun e => by omega), List.append_nil]
      have HFP : Hid (ps2 ++ prs (overT l k x.A).toList k = outE l (k + 1)) := by
        show _ = _
        rw [HPE.out, outE_succ HX.out]
        unfold outAt
        rw [if_pos h12, if_neg (by omega), List.append_nil]
        simp only [List.append_assoc]
      clear h12
      have r1 : ∀ n, (Instr.lookup 100 (.map (some m2)) (.int .i64 x.A) true).run Try.prog (w5.drewN n) = .ok (.tuple #[(natV (overT l k x.A)).getD (.int .i64 0), .bool (natV (overT l k x.A)).isSome]) (w5.drewN n) := fun n => by
        have h1 := (HCS.out.quiet ⟨n, rfl⟩).ws.over.map.look true Try.underlying100 (zero_int _) HAG.out
        exact h1
      cases hov : overT l k x.A with
      | none =>
        rw [hov] at r1 HFP
        have r1 : ∀ n, (Instr.lookup 100 (.map (some m2)) (.int .i64 x.A) true).run Try.prog (w5.drewN n) = .ok (.tuple #[.int .i64 0, .bool false]) (w5.drewN n) := r1
        clear hov
        go_wp2_with fail
        first | (refine wp_region_quiet_lit (by kernel_rfl) (by kernel_rfl) ?_; (repeat (go_big_quiet_step (fail))); refine wpQuiet_nil ?_; intro _ hw'; obtain ⟨nq, hw''⟩ := hw'; subst hw'')
        clear r1
        go_wp2_with fail
        exact bodyPost_end (results_none rfl _ _ _) rfl (EvPost.mk (HCS.out.quiet ⟨nq, rfl⟩) (by omega) HE0.out HF2.out HF1.out HF3.out (by rw [← HFP.out]; simp [prs]))
      | some i =>
        rw [hov] at r1 HFP
        have r1 : ∀ n, (Instr.lookup 100 (.map (some m2)) (.int .i64 x.A) true).run Try.prog (w5.drewN n) = .ok (.tuple #[.int .i64 (i : Nat), .bool true]) (w5.drewN n) := r1
        have hik := HOT.out _ _ hov
        clear hov
        go_wp2_with fail
        first | (refine wp_region_quiet_lit (by kernel_rfl) (by kernel_rfl) ?_; (repeat (go_big_quiet_step (fail))); refine wpQuiet_nil ?_; intro _ hw'; obtain ⟨nq, hw''⟩ := hw'; subst hw'')
        clear r1
        have HCD := Lib.hid (HCS.out.quiet (w' := w5.drewN nq) ⟨nq, rfl⟩)
        have HE := Lib.hid (edge_any HCD.out.ws (i := (i : Int)) (j := (k : Int)) (by have := HP2.out; omega) (by unfold I64; omega) (by unfold I64; omega))
        go_wp2_with fail
        refine HE.out.mono ?_
        rintro e w6 hp
        have HP := Lib.hid (HCD.out.edges hp)
        obtain ⟨rfl, -⟩ := hp
        clear HE
        go_wp2_with fail
        obtain ⟨tag', v', hcs⟩ := HP.out
        exact bodyPost_end (results_none rfl _ _ _) rfl (EvPost.mk hcs (by omega) HE0.out HF2.out HF1.out HF3.out HFP.out)
    · have d11 : (x.Kind == 11) = false := by simp [h14]
      have d17 : (x.Kind == 17) = false := by simp [h14]
      have d12 : (x.Kind == 12) = false := by simp [h14]
      have d14 : (x.Kind == 14) = true := by simp [h14]
      have a1 := HCS.out.ws.box.blk.cell (j := 3) rfl
      have HF2 : Hid (∀ t, overT l k t = overT l (k + 1) t) := fun t => by rw [overT_succ HX.out, if_neg (fun e => by omega)]
      have HF1 : Hid (∀ t, S1 t = spawnT l (k + 1) t) := fun t => by rw [spawnT_succ HX.out, ← HE1.out t, if_neg (fun e => by omega), List.append_nil]
      have HF3 : Hid (∀ t, (if t = x.A then freeT l k t ++ [k] else freeT l k t) = freeT l (k + 1) t) := fun t => by
        rw [freeT_succ HX.out, if_neg (c := x.Kind = 13 ∧ t = x.A) (fun e => by omega)]
        by_cases e : t = x.A
        · rw [if_pos e, if_pos ⟨h14, e⟩]
        · rw [if_neg e, if_neg (fun h => e h.2), List.append_nil]
      have HFP : Hid (ps2 = outE l (k + 1)) := by
        show _ = _
        rw [HPE.out, outE_succ HX.out]
        unfold outAt
        rw [if_neg (by omega), if_neg (by omega), List.append_nil, List.append_nil, List.append_assoc]
      clear h14
      obtain ⟨U, hU⟩ : ∃ U, U = (g3 x.A).getD nilV := ⟨_, rfl⟩
      have r1 : (Instr.lookup 101 (.map (some m3)) (.int .i64 x.A) false).run Try.prog w5.drew = .ok U w5.drew := by
        have h1 := (HCS.out.quiet (w' := w5.drew) ⟨1, rfl⟩).ws.frees.rows.map.look false Try.underlying101 (zero_list _) HAG.out
        rw [hU]
        exact h1
      have r2 : (Instr.lookup 101 (.map (some m3)) (.int .i64 x.A) false).run Try.prog (w5.alloc (.cells #[.int .i64 (k : Nat)] 3)).drew = .ok U (w5.alloc (.cells #[.int .i64 (k : Nat)] 3)).drew := by
        have hm := HCS.out.ws.frees.rows.map
        have h1 := (hm.boxed (.cells #[.int .i64 (k : Nat)] 3)).quiet (w' := (w5.alloc (.cells #[.int .i64 (k : Nat)] 3)).drew) ⟨1, rfl⟩
        rw [hU]
        exact h1.look false Try.underlying101 (zero_list _) HAG.out
      have HU := Lib.hid hU
      clear hU
      have HOW : Hid (Own (fun _ => False) w5.drew W.heap.size 3 U (natI (freeT l k x.A))) := by
        have h1 := (HCS.out.quiet (w' := w5.drew) ⟨1, rfl⟩).ws.frees
        show Own _ _ _ _ _ _
        rw [HU.out]; exact h1.rows.row x.A
      have hgw : gw < w5.heap.size := HCS.out.ws.box.blk.lt
      have hgbl : gb < w5.heap.size := HCS.out.ev.blk.lt
      have HU0 : Hid (U.ownBlock ≠ some gw ∧ U.ownBlock ≠ some gb ∧ U.ownBlock ≠ some m3) := by
        have h1 := HCS.out.ws.frees
        rw [HU.out]
        refine ⟨fun e => ?_, fun e => ?_, h1.rows.off x.A⟩
        · have := h1.marks x.A gw e; rw [HCS.out.ws.box.mark] at this; omega
        · have := h1.marks x.A gb e; rw [HCS.out.ev.mark] at this; omega
      have HCI : Hid (Rep.cells (α := Int) (fun _ => False) w5.drew [.int .i64 (k : Nat)] (k : Int)) := ⟨rfl, by unfold I64; omega⟩
      have HLN : Hid ((natI (freeT l k x.A)).length ≤ 200) := by
        show _ ≤ _
        unfold natI
        rw [List.length_map]
        have := HFL.out x.A
        omega
      have hbs := HCS.out.ws.below.size
      have hal : ∀ (o : Obj) (b j : Nat), b < w5.heap.size → (w5.alloc o).cell? ⟨b, j, none⟩ = w5.cell? ⟨b, j, none⟩ := fun o b j h => ((Below.refl w5.heap.size w5).alloc (Nat.le_refl _) o).cell (p := ⟨b, j, none⟩) h
      go_wp2_with fail
      go_region_held3 (fun w' => w'.cell? ⟨gw, 3, none⟩ = some (.map (some m3)) ∧ w'.cell? ⟨gb, 6, none⟩ = some (.int .i64 x.A)) (first | exact ⟨a1, b6⟩ | exact ⟨(hal _ _ _ hgw).trans a1, (hal _ _ _ hgbl).trans b6⟩ | exact ⟨a1', b6'⟩ | exact ⟨a7, b7⟩)
        ((refine step_append1s (α := Int) (S := fun _ => False) (B := W.heap.size) (e := 3) (xs := natI (freeT l k x.A)) (y := (k : Int)) (cs := [.int .i64 (k : Nat)]) (w0 := w5.drew) (e' := 3) rfl rfl Try.underlying28 Try.infoRep28 (by decide) (by decide) (by simp [Act.eval, Act.put]) (g := w5.heap.size) (by simp [Act.eval, Act.put]) rfl rfl HOW.out HCI.out (fun _ h => h.elim) (by have := HLN.out; unfold maxLen; omega) (by have := HLN.out; omega) hbs ?_; intro u' w' hown' hg' hst'; have a1' := (Go.Bk.cell_grown (o := 3) hg' hgw HU0.out.1).trans a1; have b6' := (Go.Bk.cell_grown (o := 6) hg' hgbl HU0.out.2.1).trans b6; replace hg' := grown_drew0 hg'; replace hst' := stay_drew0 hst'; obtain ⟨w7, hrun, hm3, hg3⟩ := (HCS.out.ws.frees.rows.map.kept (w' := w') hg' (Ne.symm HU0.out.2.2)).put_run Try.underlying101 (by omega) HAG.out u'; have hrun2 : (Instr.mapUpdate 101 (.map (some m3)) (.int .i64 x.A) u').run Try.prog w' = .ok () w7 := hrun; obtain ⟨tag7, hc7⟩ := HCS.out.put3 (t := x.A) (i := k) hown' (by rw [← HU.out]; exact hg') (by rw [← HU.out]; exact hst') hm3 hg3; have HCS2 := Lib.hid hc7; have a7 := hc7.ws.box.blk.cell (j := 3) rfl; have b7 := hc7.ev.blk.cell (j := 6) rfl; clear hown' hg' hst' hm3 hg3 hrun hc7))
      all_goals go_wp2_with fail
      all_goals exact bodyPost_end (results_none rfl _ _ _) rfl (EvPost.mk HCS2.out (by omega) HE0.out HF2.out HF1.out HF3.out HFP.out)
    · have d11 : (x.Kind == 11) = false := by simp [h13]
      have d17 : (x.Kind == 17) = false := by simp [h13]
      have d12 : (x.Kind == 12) = false := by simp [h13]
      have d14 : (x.Kind == 14) = false := by simp [h13]
      have d13 : (x.Kind == 13) = true := by simp [h13]
      have a3 := HCS.out.ws.box.blk.cell (j := 3) rfl
      have HF2 : Hid (∀ t, overT l k t = overT l (k + 1) t) := fun t => by rw [overT_succ HX.out, if_neg (fun e => by omega)]
      have HF1 : Hid (∀ t, S1 t = spawnT l (k + 1) t) := fun t => by rw [spawnT_succ HX.out, ← HE1.out t, if_neg (fun e => by omega), List.append_nil]
      have HF3 : Hid (∀ t, (if t = x.A then [] else freeT l k t) = freeT l (k + 1) t) := fun t => by
        rw [freeT_succ HX.out, if_neg (c := x.Kind = 14 ∧ t = x.A) (fun e => by omega), List.append_nil]
        by_cases e : t = x.A
        · rw [if_pos e, if_pos ⟨h13, e⟩]
        · rw [if_neg e, if_neg (fun h => e h.2)]
      have HFP : Hid (ps2 ++ prs (freeT l k x.A) k = outE l (k + 1)) := by
        show _ = _
        rw [HPE.out, outE_succ HX.out]
        unfold outAt
        rw [if_neg (by omega), if_pos h13, List.append_nil]
        simp only [List.append_assoc]
      clear h13
      obtain ⟨U, hU⟩ : ∃ U, U = (g3 x.A).getD nilV := ⟨_, rfl⟩
      have r1 : (Instr.lookup 101 (.map (some m3)) (.int .i64 x.A) false).run Try.prog w5.drew = .ok U w5.drew := by
        have h1 := (HCS.out.quiet (w' := w5.drew) ⟨1, rfl⟩).ws.frees.rows.map.look false Try.underlying101 (zero_list _) HAG.out
        rw [hU]
        exact h1
      have HU := Lib.hid hU
      clear hU
      have HCD := Lib.hid (HCS.out.quiet (w' := w5.drew) ⟨1, rfl⟩)
      have HU2 : Hid (OwT tag3 4 w5.drew W.heap.size 3 U (natI (freeT l k x.A))) := by
        refine ⟨?_, ?_⟩
        · rw [HU.out]; exact HCD.out.ws.frees.rows.row x.A
        · rw [HU.out]; exact HCD.out.ws.frees.marks x.A
      have HAL : Hid (Calls Try.prog 69 #[.pointer (some ⟨gw, 0, none⟩), U, .int .i64 (k : Nat)] w5.drew _) := all_any HCD.out.ws HU2.out (by omega) (by have := HP2.out; have := HFL.out x.A; omega) (HFI.out _) (by omega)
      go_wp2_with fail
      go_still_tail 9, (by kernel_rfl)
      change wpList _ _ _ _ _ w5.drew
      clear r1 a3
      go_wp2_with (go_at_call 69; (with_reducible refine HAL.out.mono ?_); rintro e w6 hp; have HP := Lib.hid (HCD.out.edges hp); obtain ⟨rfl, -⟩ := hp)
      obtain ⟨tag6, v6, hcs⟩ := HP.out
      have HCS6 := Lib.hid hcs
      clear hcs HP HAL HU HU2 HCS HCD b0 b6
      have a3 := HCS6.out.ws.box.blk.cell (j := 3) rfl
      have b6 := HCS6.out.ev.blk.cell (j := 6) rfl
      have HCD := Lib.hid (HCS6.out.quiet (w' := w6.drew) ⟨1, rfl⟩)
      go_still_tail 6, (by kernel_rfl)
      change wpList _ _ _ _ _ w6.drew
      go_wp2_with ((with_reducible refine wp_gmap_del rfl rfl Try.underlying101 rfl HCD.out.ws.frees.rows.map (k := x.A) (Eq.trans (b := .int .i64 x.A) rfl (intKey_val _)) HAG.out fun w7 hm' hg' => ?_); have HCS7 := Lib.hid (HCD.out.del3 hm' hg'); clear hm' hg')
      exact bodyPost_end (results_none rfl _ _ _) rfl (EvPost.mk HCS7.out (by omega) HE0.out HF2.out HF1.out HF3.out HFP.out)
    · have d11 : (x.Kind == 11) = false := by simpa using h11
      have d17 : (x.Kind == 17) = false := by simpa using h17
      have d12 : (x.Kind == 12) = false := by simpa using h12
      have d14 : (x.Kind == 14) = false := by simpa using h14
      have d13 : (x.Kind == 13) = false := by simpa using h13
      have HF2 : Hid (∀ t, overT l k t = overT l (k + 1) t) := fun t => by rw [overT_succ HX.out, if_neg (fun e => by omega)]
      have HF1 : Hid (∀ t, S1 t = spawnT l (k + 1) t) := fun t => by rw [spawnT_succ HX.out, ← HE1.out t, if_neg (fun e => by omega), List.append_nil]
      have HF3 : Hid (∀ t, freeT l k t = freeT l (k + 1) t) := fun t => by rw [freeT_succ HX.out, if_neg (fun e => by omega), if_neg (fun e => by omega), List.append_nil]
      have HFP : Hid (ps2 = outE l (k + 1)) := by
        show _ = _
        rw [HPE.out, outE_succ HX.out]
        unfold outAt
        rw [if_neg (by omega), if_neg (by omega), List.append_nil, List.append_nil, List.append_assoc]
      clear h11 h17 h12 h14 h13
      go_wp2_with fail
      exact bodyPost_end (results_none rfl _ _ _) rfl (EvPost.mk HCS.out (by omega) HE0.out HF2.out HF1.out HF3.out HFP.out)
end Go.Proofs.Ytffebdngmbbcoaa.clk
