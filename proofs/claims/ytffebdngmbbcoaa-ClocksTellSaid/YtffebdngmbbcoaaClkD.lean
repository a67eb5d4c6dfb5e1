/- ClocksEdges: edges, check, Edges: walked. -/
import Derived.Test.YtffebdngmbbcoaaClkC
import Derived.Test.YtffebdngmbbcoaaCmpG
import Derived.Test.YtffebdngmbbcoaaSortPG
import Derived.Test.YtffebdngmbbcoaaCompactP
import Derived.Test.YtffebdngmbbcoaaFuncsE
set_option linter.unusedVariables false
set_option linter.unusedSimpArgs false
namespace Go.Proofs.Ytffebdngmbbcoaa.clk
open Go.Bk Go.RowKit Go.Maps Go.Proofs.Ytffebdngmbbcoaa.lock Go.Sort

theorem cmpJ_or (x y : Api.DPair) : cmpJ x y = or2 (cmp3 x.J y.J) (cmp3 x.I y.I) := rfl
set_option maxRecDepth 100000 in
set_option maxHeartbeats 1000000 in
theorem byJ_any (w : World) (x y : Api.DPair) : Calls Try.prog 54 #[.agg #[.int .i64 x.I, .int .i64 x.J], .agg #[.int .i64 y.I, .int .i64 y.J]] w fun e w' => e = .returned (.int .i64 (cmpJ x y)) ∧ ∃ q os', w' = grow (w.drewN q) os' := by
  rw [cmpJ_or]
  have HC : Hid (∀ x y w, Calls Try.prog 33 #[.int .i64 x, .int .i64 y] w fun e w' => e = .returned (.int .i64 (cmp3 x y)) ∧ w' = w) := fun x y w => (compare_any w x y).mono fun e w' h => ⟨h.1, h.2.symm⟩
  go_enter Try.func54, Try.ntmps54
  go_wp2_with fail
  refine cut_wp (fun wz => (wz.cell? ⟨w.heap.size, 0, none⟩ = some (.int .i64 x.I) ∧ wz.cell? ⟨w.heap.size, 1, none⟩ = some (.int .i64 x.J) ∧ wz.cell? ⟨w.heap.size + 1, 0, none⟩ = some (.int .i64 y.I) ∧ wz.cell? ⟨w.heap.size + 1, 1, none⟩ = some (.int .i64 y.J)) ∧ ∃ os', wz = grow w os') ⟨?_, ?_⟩ ?_
  · go_light
    simp
  · exact ⟨_, by rw [alloc_eq_grow, alloc_eq_grow, grow_grow]⟩
  rintro wz ⟨⟨c0, c1, c2, c3⟩, hos⟩
  have HOS := Lib.hid hos
  clear hos
  go_still_tail 10, (by kernel_rfl)
  still_call (HC.out _ _ _)
  repeat still_step
  still_call (HC.out _ _ _)
  repeat still_step
  refine wpStill_nil ?_
  change wpList _ _ _ _ _ wz.drew
  have HO : Hid (∀ o, Calls Try.prog 32 #[.slice (some ⟨wz.heap.size, 0, none⟩) 2 2] (wz.alloc (.cells #[.int .i64 (cmp3 x.J y.J), .int .i64 (cmp3 x.I y.I)] o)).drew fun e w' => e = .returned (.int .i64 (or2 (cmp3 x.J y.J) (cmp3 x.I y.I))) ∧ (wz.alloc (.cells #[.int .i64 (cmp3 x.J y.J), .int .i64 (cmp3 x.I y.I)] o)).drew = w') := fun o => or_any ((blk_new wz [.int .i64 (cmp3 x.J y.J), .int .i64 (cmp3 x.I y.I)] o).cell (j := 0) rfl) ((blk_new wz [.int .i64 (cmp3 x.J y.J), .int .i64 (cmp3 x.I y.I)] o).cell (j := 1) rfl)
  clear c0 c1 c2 c3
  go_wp2_with (go_at_call 32; (with_reducible refine (HO.out _).mono ?_); rintro e w' ⟨rfl, rfl⟩)
  go_ret
  obtain ⟨os', rfl⟩ := HOS.out
  exact ⟨rfl, 1, os' ++ #[_], by rw [alloc_eq_grow, ← grow_grow]; rfl⟩
theorem swoJ : SWO (ltOf cmpJ) where
  irrefl x := by
    rw [Bool.eq_false_iff]
    intro h
    have := (cmpJ_lt x x).1 h
    unfold ltJ at this
    omega
  trans x y z h1 h2 := by
    have h1 := (cmpJ_lt x y).1 h1
    have h2 := (cmpJ_lt y z).1 h2
    refine (cmpJ_lt x z).2 ?_
    unfold ltJ at *
    omega
  ntrans x y z h1 h2 := by
    rw [Bool.eq_false_iff] at *
    intro h
    have h := (cmpJ_lt x z).1 h
    have h1 : ¬ ltJ x y := fun h => h1 ((cmpJ_lt x y).2 h)
    have h2 : ¬ ltJ y z := fun h => h2 ((cmpJ_lt y z).2 h)
    unfold ltJ at *
    omega
theorem totalJ (x y : Api.DPair) (h1 : ltOf cmpJ x y = false) (h2 : ltOf cmpJ y x = false) : x = y := by
  rw [Bool.eq_false_iff] at *
  have h1 : ¬ ltJ x y := fun h => h1 ((cmpJ_lt x y).2 h)
  have h2 : ¬ ltJ y x := fun h => h2 ((cmpJ_lt y x).2 h)
  unfold ltJ at *
  cases x; cases y
  simp only [Api.DPair.mk.injEq] at *
  omega
theorem sortJ_sorted (l : List Api.DPair) : (sortBy cmpJ l).Pairwise (fun x y => ¬ ltJ y x) := by
  have h := List.pairwise_mergeSort (le := fun x y => !(decide (cmpJ y x < 0))) (fun a b c h1 h2 => by
    simp only [Bool.not_eq_true', Bool.eq_false_iff, ne_eq, cmpJ_lt] at h1 h2 ⊢
    unfold ltJ at *
    omega) (fun a b => by
    rw [Bool.or_eq_true]
    simp only [Bool.not_eq_true', Bool.eq_false_iff, ne_eq, cmpJ_lt]
    unfold ltJ
    omega) l
  refine List.Pairwise.imp (fun {a b} h => ?_) h
  simp only [Bool.not_eq_true', Bool.eq_false_iff, ne_eq, cmpJ_lt] at h
  exact h
def PairsPost (w : World) (ps : List Api.DPair) (e : Ending) (w' : World) : Prop := ∃ v, e = .returned v ∧ Own (fun _ => False) w' w.heap.size 58 v ps ∧ Below w.heap.size w w'
def edRel (w : World) (l : List Api.Event) (n : Nat) (v14 : Value) (w' : World) : Prop :=
  ∃ (k : Nat) (tag : Nat → Nat) (f1 f3 : Int → Option Value) (v : Value), k ≤ n ∧ v14 = .int .i64 k ∧ WS w w' tag (w.heap.size + 1 + 1 + 1 + 1) w.heap.size (w.heap.size + 1) (w.heap.size + 1 + 1) (w.heap.size + 1 + 1 + 1) (2 * k) (lastT l k) (overT l k) f1 f3 (spawnT l k) (freeT l k) v (outE l k)
def tag0 (m b : Nat) : Nat := if b = m then 1 else if b = m + 1 then 2 else if b = m + 2 then 3 else if b = m + 3 then 4 else 0
abbrev mapO : Obj := .map #[] 0
theorem ws_start (w : World) (l : List Api.Event) (o : Obj) (ho : o = .cells #[.map (some w.heap.size), .map (some (w.heap.size + 1)), .map (some (w.heap.size + 1 + 1)), .map (some (w.heap.size + 1 + 1 + 1)), .slice none 0 0] 103) :
    WS w (((((w.alloc mapO).alloc mapO).alloc mapO).alloc mapO).alloc o) (tag0 w.heap.size) (w.heap.size + 1 + 1 + 1 + 1) w.heap.size (w.heap.size + 1) (w.heap.size + 1 + 1) (w.heap.size + 1 + 1 + 1) 0 (lastT l 0) (overT l 0) (fun _ => none) (fun _ => none) (spawnT l 0) (freeT l 0) (.slice none 0 0) (outE l 0) := by
  subst ho
  have g0 := (((((GMap.made intKey w).boxed mapO).boxed mapO).boxed mapO).boxed (.cells #[.map (some w.heap.size), .map (some (w.heap.size + 1)), .map (some (w.heap.size + 1 + 1)), .map (some (w.heap.size + 1 + 1 + 1)), .slice none 0 0] 103))
  have g1 := ((((GMap.made intKey (w.alloc mapO)).boxed mapO).boxed mapO).boxed (.cells #[.map (some w.heap.size), .map (some (w.heap.size + 1)), .map (some (w.heap.size + 1 + 1)), .map (some (w.heap.size + 1 + 1 + 1)), .slice none 0 0] 103))
  have g2 := (((GMap.made intKey ((w.alloc mapO).alloc mapO)).boxed mapO).boxed (.cells #[.map (some w.heap.size), .map (some (w.heap.size + 1)), .map (some (w.heap.size + 1 + 1)), .map (some (w.heap.size + 1 + 1 + 1)), .slice none 0 0] 103))
  have g3 := ((GMap.made intKey (((w.alloc mapO).alloc mapO).alloc mapO)).boxed (.cells #[.map (some w.heap.size), .map (some (w.heap.size + 1)), .map (some (w.heap.size + 1 + 1)), .map (some (w.heap.size + 1 + 1 + 1)), .slice none 0 0] 103))
  have e1 : (w.alloc mapO).heap.size = w.heap.size + 1 := by simp
  have e2 : ((w.alloc mapO).alloc mapO).heap.size = w.heap.size + 1 + 1 := by simp
  have e3 : (((w.alloc mapO).alloc mapO).alloc mapO).heap.size = w.heap.size + 1 + 1 + 1 := by simp
  have e4 : ((((w.alloc mapO).alloc mapO).alloc mapO).alloc mapO).heap.size = w.heap.size + 1 + 1 + 1 + 1 := by simp
  have hb := blk_new ((((w.alloc mapO).alloc mapO).alloc mapO).alloc mapO) [.map (some w.heap.size), .map (some (w.heap.size + 1)), .map (some (w.heap.size + 1 + 1)), .map (some (w.heap.size + 1 + 1 + 1)), .slice none 0 0] 103
  rw [e1] at g1
  rw [e2] at g2
  rw [e3] at g3
  rw [e4] at hb
  refine ⟨⟨hb, by unfold tag0; rw [if_neg (by omega), if_neg (by omega), if_neg (by omega), if_neg (by omega)]⟩, ⟨g0.congr (fun _ => rfl), by unfold tag0; rw [if_pos rfl]⟩, ⟨MapRows.start g1 _ _, by unfold tag0; rw [if_neg (by omega), if_pos rfl], fun t b hb => by cases hb⟩, ⟨g2.congr (fun _ => rfl), by unfold tag0; rw [if_neg (by omega), if_neg (by omega), if_pos rfl]⟩,
    ⟨MapRows.start g3 _ _, by unfold tag0; rw [if_neg (by omega), if_neg (by omega), if_neg (by omega), if_pos rfl], fun t b hb => by cases hb⟩, ⟨Own.nil _ _ _ _, fun b hb => by cases hb⟩, ?_, by omega⟩
  exact (((((Below.refl _ _).alloc (Nat.le_refl _) _).alloc (by omega) _).alloc (by omega) _).alloc (by omega) _).alloc (by omega) _
set_option maxRecDepth 100000 in
set_option maxHeartbeats 4000000 in
theorem edges_any {S : Nat → Prop} {w : World} {a : Option Addr} {c n : Nat} {l : List Api.Event} (hn : l.length = n) (h : Arr S w a l) (hS : ∀ b, S b → b < w.heap.size) (hl : n ≤ 200) :
    Calls Try.prog 38 #[.slice a n c] w (PairsPost w (refTo l n)) := by
  have HN := Lib.hid hn
  have HA : Hid (∀ w', Below w.heap.size w w' → Arr S w' a l) := fun w' hb => h.keep (fun b hb' => hb.block b (hS b hb'))
  have HW0 := Lib.hid (ws_start w l _ rfl)
  clear hn h hS
  have hmm := @run_makeMap Try.prog
  go_enter Try.func38, Try.ntmps38
  go_wp2_with fail
  clear hmm
  go_loopw [14] (edRel w l n) (fun i _ => n - (intOf i).toNat)
  case atStart => exact ⟨0, _, _, _, _, Nat.zero_le _, rfl, HW0.out⟩
  case round =>
    clear HW0
    obtain ⟨k, tag, f1, f3, v, hk, rfl, hws⟩ := hrel
    have HWS := Lib.hid hws
    have hbs := hws.below.size
    have c4 := hws.box.blk.cell (j := 4) rfl
    clear hws
    by_cases hlt : k < n
    · obtain ⟨x, hx⟩ : ∃ x, l[k]? = some x := ⟨_, List.getElem?_eq_getElem (by have := HN.out; omega)⟩
      obtain ⟨b1, o1, rfl, -, q0, q1, q2, q3, q4, q5, q6, q7, q8, q9, q10, q11, i0, i1, i2, i3, i4, i5, i6, -⟩ := api_Event_elem (HA.out _ HWS.out.below) hx
      have HW1 : Hid (WS w (wr.alloc (.cells (evC x).toArray 70)) (retag tag wr.heap.size 6) (w.heap.size + 1 + 1 + 1 + 1) w.heap.size (w.heap.size + 1) (w.heap.size + 1 + 1) (w.heap.size + 1 + 1 + 1) (2 * k) (lastT l k) (overT l k) f1 f3 (spawnT l k) (freeT l k) v (outE l k)) :=
        HWS.out.keep (Turn.below ((Below.refl _ _).alloc (Nat.le_refl _) _) 6) (fun _ h => h.elim) ((Below.refl _ _).alloc (Nat.le_refl _) _)
      have HE := Lib.hid (event_any HW1.out hx (by omega) (by rw [HN.out]; exact hl) i2 i6)
      clear hx c4
      go_wp2_with (go_at_call 52; go_loud ((with_reducible refine HE.out.mono ?_); rintro e w2 ⟨rfl, tag2, g1, g3, v2, hws⟩; have HW2 := Lib.hid hws; clear hws))
      go_roundw
      case rel => exact ⟨k + 1, tag2, g1, g3, v2, by omega, by go_num, HW2.out⟩
      case measure => simp [intOf]; omega
    · obtain rfl : k = n := by omega
      have hol : (outE l k).length ≤ 100000 := by
        have h1 := outE_len l 200 k (by omega)
        have h2 : k * (2 + 2 * 200) ≤ 200 * (2 + 2 * 200) := Nat.mul_le_mul_right _ (by omega)
        omega
      have HSO := Lib.hid (sortFunc_gen swoJ totalJ (enters_of Try.func54 (by kernel_rfl) rfl) byJ_any HWS.out.out.own (by omega))
      have HRE : Hid (compactTo (sortBy cmpJ (outE l k)) (sortBy cmpJ (outE l k)).length = refTo l k) := by
        have h1 := edges_eq l (sortBy cmpJ (outE l k)) (sortJ_sorted _) (fun p => by rw [sortBy_mem, HN.out])
        rwa [HN.out] at h1
      go_wp2_with fail
      refine HSO.out.mono ?_
      rintro e w1 ⟨rfl, ho1, hg1⟩
      have HB1 := Lib.hid (HWS.out.below.grown hg1 hbs (fun r hr => (HWS.out.out.own.lt r hr).1))
      have HO1 := Lib.hid ho1
      have t1 := HWS.out.out.step hg1
      have c4' := (HWS.out.box.keep t1 (by omega)).blk.cell (j := 4) rfl
      have HCO := Lib.hid (compact_any ho1 (by rw [sortBy_len]; omega))
      rw [HRE.out] at HCO
      clear ho1 hg1 HSO t1 c4
      go_wp2_with fail
      refine HCO.out.mono ?_
      rintro e w2 ⟨v2, rfl, ho2, hg2⟩
      have HB2 := Lib.hid (HB1.out.grown hg2 HB1.out.size (fun r hr => (HO1.out.lt r hr).1))
      have HO2 := Lib.hid ho2
      clear ho2 hg2
      go_wp2_with fail
      go_ret
      exact ⟨_, rfl, HO2.out, HB2.out⟩
/-- Is the list right? -/
def clkErr (l : List Api.Event) (t : Int) : Int := if 200 < l.length then 2 else if t < 0 ∨ 8 < t then 1 else if l.any (fun e => decide (e.Thread < 0 ∨ t ≤ e.Thread)) then 1 else 0
set_option maxRecDepth 100000 in
theorem checkFn_any {w : World} {g : Nat} {t : Int} (x : Api.Event) (hc : w.cell? ⟨g, 0, none⟩ = some (.int .i64 t)) (hg : g < w.heap.size) :
    Calls Try.prog 51 (#[.agg (evC x).toArray] ++ #[.pointer (some ⟨g, 0, none⟩)]) w fun e w' => e = .returned (.bool (decide (x.Thread < 0 ∨ t ≤ x.Thread))) ∧ Below w.heap.size w w' := by
  have hc' : ∀ o, (w.alloc o).cell? ⟨g, 0, none⟩ = some (.int .i64 t) := fun o => (((Below.refl w.heap.size w).alloc (Nat.le_refl _) o).cell (p := ⟨g, 0, none⟩) hg).trans hc
  clear hc
  by_cases h1 : x.Thread < 0
  · have d1 : decide (x.Thread < 0) = true := decide_eq_true h1
    have HD : Hid (decide (x.Thread < 0 ∨ t ≤ x.Thread) = true) := decide_eq_true (.inl h1)
    clear h1
    go_enter Try.func51, Try.ntmps51
    go_wp2
    go_ret
    exact ⟨by rw [HD.out]; rfl, (Below.refl _ _).alloc (Nat.le_refl _) _⟩
  · have d1 : decide (x.Thread < 0) = false := decide_eq_false h1
    by_cases h2 : t ≤ x.Thread
    · have d2 : decide (t ≤ x.Thread) = true := decide_eq_true h2
      have HD : Hid (decide (x.Thread < 0 ∨ t ≤ x.Thread) = true) := decide_eq_true (.inr h2)
      clear h1 h2
      go_enter Try.func51, Try.ntmps51
      go_wp2
      go_ret
      exact ⟨by rw [HD.out]; rfl, (Below.refl _ _).alloc (Nat.le_refl _) _⟩
    · have d2 : decide (t ≤ x.Thread) = false := decide_eq_false h2
      have HD : Hid (decide (x.Thread < 0 ∨ t ≤ x.Thread) = false) := decide_eq_false (by omega)
      clear h1 h2
      go_enter Try.func51, Try.ntmps51
      go_wp2
      go_ret
      exact ⟨by rw [HD.out]; rfl, (Below.refl _ _).alloc (Nat.le_refl _) _⟩
theorem mild_keeps {w0 : World} : True := trivial
set_option maxRecDepth 100000 in
theorem check_any {S : Nat → Prop} {w : World} {a : Option Addr} {c n : Nat} {l : List Api.Event} {t : Int} (hn : l.length = n) (h : Arr S w a l) (hS : ∀ b, S b → b < w.heap.size) :
    Calls Try.prog 37 #[.slice a n c, .int .i64 t] w fun e w' => e = .returned (.int .i64 (clkErr l t)) ∧ Below w.heap.size w w' := by
  have hsm := h.small
  rw [hn] at hsm
  unfold maxLen at hsm
  have HB0 : Hid (Below w.heap.size w (w.alloc (.cells #[.int .i64 t] 3))) := (Below.refl _ _).alloc (Nat.le_refl _) _
  by_cases hl : 200 < n
  · have HR : Hid (clkErr l t = 2) := by show _ = _; unfold clkErr; rw [if_pos (by omega)]
    clear h hn hS
    go_enter Try.func37, Try.ntmps37
    go_wp2
    go_ret
    exact ⟨by rw [HR.out]; rfl, HB0.out⟩
  · by_cases h0 : t < 0
    · have d0 : decide (t < 0) = true := decide_eq_true h0
      have HR : Hid (clkErr l t = 1) := by show _ = _; unfold clkErr; rw [if_neg (by omega), if_pos (.inl h0)]
      clear h hn hS h0
      go_enter Try.func37, Try.ntmps37
      go_wp2
      go_ret
      exact ⟨by rw [HR.out]; rfl, HB0.out⟩
    · have d0 : decide (t < 0) = false := decide_eq_false h0
      by_cases h8 : 8 < t
      · have d8 : decide (8 < t) = true := decide_eq_true h8
        have HR : Hid (clkErr l t = 1) := by show _ = _; unfold clkErr; rw [if_neg (by omega), if_pos (.inr h8)]
        clear h hn hS h0 h8
        go_enter Try.func37, Try.ntmps37
        go_wp2
        go_ret
        exact ⟨by rw [HR.out]; rfl, HB0.out⟩
      · have d8 : decide (8 < t) = false := decide_eq_false h8
        have HR : Hid (clkErr l t = if l.any (fun e => decide (e.Thread < 0 ∨ t ≤ e.Thread)) then 1 else 0) := by show _ = _; unfold clkErr; rw [if_neg (by omega), if_neg (by omega)]
        have hA1 : Arr S (w.alloc (.cells #[.int .i64 t] 3)) a l := h.keep (fun b hb => Below.heap_alloc _ _ _ (hS b hb))
        have hcell : (w.alloc (.cells #[.int .i64 t] 3)).cell? ⟨w.heap.size, 0, none⟩ = some (.int .i64 t) := (blk_new w [.int .i64 t] 3).cell (j := 0) rfl
        have HC := Lib.hid (evs.containsFunc_any (c := c) (F := 51) (caps := #[.pointer (some ⟨w.heap.size, 0, none⟩)]) (p := fun e => decide (e.Thread < 0 ∨ t ≤ e.Thread)) mild_grow hA1 (fun b hb => by have := hS b hb; simp; omega) (fun y w => Try.call51 _ _) (fun y wx _ hg => by
          have hsz := hg.size
          simp at hsz
          exact checkFn_any y ((hg.cell (p := ⟨w.heap.size, 0, none⟩) (by simp)).trans hcell) (by omega)))
        rw [hn] at HC
        clear h hn hS h0 h8 hA1 hcell
        cases hany : l.any (fun e => decide (e.Thread < 0 ∨ t ≤ e.Thread)) with
        | true =>
          rw [hany] at HR HC
          clear hany
          go_enter Try.func37, Try.ntmps37
          go_wp2_with (go_at_call 50; (with_reducible refine HC.out.mono ?_); rintro e w2 ⟨rfl, hb⟩; have HB2 := Lib.hid (HB0.out.trans (Below.mono hb (by simp))); clear hb)
          go_ret
          exact ⟨by rw [HR.out]; rfl, HB2.out⟩
        | false =>
          rw [hany] at HR HC
          clear hany
          go_enter Try.func37, Try.ntmps37
          go_wp2_with (go_at_call 50; (with_reducible refine HC.out.mono ?_); rintro e w2 ⟨rfl, hb⟩; have HB2 := Lib.hid (HB0.out.trans (Below.mono hb (by simp))); clear hb)
          go_ret
          exact ⟨by rw [HR.out]; rfl, HB2.out⟩
end Go.Proofs.Ytffebdngmbbcoaa.clk
