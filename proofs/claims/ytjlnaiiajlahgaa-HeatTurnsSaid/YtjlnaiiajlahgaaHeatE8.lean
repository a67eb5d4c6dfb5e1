/- HeatTurns: Heads of the document: a round's way where a turn is told of a loop that is new; it is laid before a head of a greater function (printed by tools/gen_heade.py). -/
import Derived.Test.YtjlnaiiajlahgaaHeatE6
import Derived.Test.YtjlnaiiajlahgaaSteps
set_option linter.unusedVariables false
set_option linter.unusedSimpArgs false
namespace Go.Proofs.Ytjlnaiiajlahgaa.heat
open Go.Bk Go.RowKit Go.Maps

section
variable {w wj : World} {hot : Int} {L : List Api.THead} {O : List Int} {fn at' kd : Int} {gc m c6 : Nat} {a6 : Option Addr} {v1 v7 v16 v17 v18 : Value}
set_option maxRecDepth 100000 in
set_option maxHeartbeats 4000000 in
theorem aft_new8 (P : Pre w wj hot L O fn at' kd gc a6 m c6 v7) (hkd : kd = 0) (hr : ¬ (fn < 0 ∨ 60 ≤ fn ∨ at' < 0 ∨ 600 ≤ at')) (hc : cur L fn at' = none) (hm : m < 100) {z : Api.THead} (hz : L[posn L fn at']? = some z) (hex : fn < z.Fn) : Aft w wj hot L O fn at' kd gc v1 (.slice a6 m c6) v7 (.int .i64 (-1)) v16 v17 v18 := by
  unfold Aft
  intros
  rename_i hK1
  have HK1 := Lib.hid hK1
  have HP := Lib.hid P
  have hol := P.few
  have r0 := P.c0; have r1 := P.c1; have r2 := P.c2
  have d0 : (kd != 0) = false := by simp [hkd]
  obtain ⟨p, hp⟩ : ∃ p, p = posn L fn at' := ⟨_, rfl⟩
  have hpm : p ≤ m := by rw [hp, P.len]; exact posn_le _ _ _
  obtain ⟨hle, hnil, harr⟩ := P.row
  have HT : Hid (stepL hot L fn at' kd = (put (bump (newH hot fn at')).1 L, (bump (newH hot fn at')).2)) := by show _ = _; rw [step_turn hkd]; unfold turnL; rw [if_neg hr, hc]; dsimp only; rw [if_neg (by rw [← P.len]; omega)]
  have e0 : decide (fn < 0) = false := decide_eq_false (by omega)
  have e1 : decide (60 ≤ fn) = false := decide_eq_false (by omega)
  have e2 : decide (at' < 0) = false := decide_eq_false (by omega)
  have e3 : decide (600 ≤ at') = false := decide_eq_false (by omega)
  have e4 : decide ((100 : Int) ≤ (m : Int)) = false := decide_eq_false (by omega)
  have HGN := Lib.hid (new_good P.hot1 P.hot2 hr)
  have HAR : Hid (∀ w', Quiet wj w' → Arr (fun b => False ∨ w.heap.size ≤ b ∧ b < wj.heap.size) w' a6 L) := fun w' hq => harr.keep (fun b _ => hq.heap b)
  have HXN := Lib.hid hc
  have HBE : Hid (∀ q y, q < p → L[q]? = some y → (y.Fn < fn ∨ y.Fn = fn ∧ y.At < at')) := fun q y hq hy => posn_before hy (by rw [← hp]; exact hq)
  have HPP := Lib.hid hp
  have HZ : Hid (L[p]? = some z) := by rw [hp]; exact hz
  have HZM : Hid (p < m) := by show _ < _; rw [P.len]; exact (List.getElem?_eq_some_iff.1 HZ.out).1
  have HEX : Hid (fn < z.Fn) := hex
  clear hex hz
  clear hkd hK1 P hr hc hp harr
  conv => arg 2; whnf
  go_wp2_with fail
  go_loopw [10] (fun v w' => lRel wj p v w') (fun v _ => p - (intOf v).toNat)
  case atStart => exact ⟨0, Nat.zero_le _, rfl, Quiet.refl _⟩
  case round =>
    obtain ⟨q, hq, rfl, hqq⟩ := hrel
    have HQQ := Lib.hid hqq
    have r0' := (hqq.cell ⟨gc, 0, none⟩).trans r0
    have r1' := (hqq.cell ⟨gc, 1, none⟩).trans r1
    by_cases hqp : q < p
    · obtain ⟨y, hy⟩ : ∃ y, L[q]? = some y := ⟨_, List.getElem?_eq_getElem (by rw [← HP.out.len]; omega)⟩
      have hbe := HBE.out q y hqp hy
      have dq : decide (q < m) = true := decide_eq_true (by omega)
      have dqi : (q : Int) < (m : Int) := by omega
      obtain ⟨b6, o6, rfl, -, y0, y1, -⟩ := api_THead_elem (HAR.out _ hqq) hy
      clear hy hqq
      by_cases f1 : y.Fn < fn
      · have df : decide (y.Fn < fn) = true := decide_eq_true f1
        clear f1 hbe
        go_wp2_with fail
        go_quiet (fail)
        go_wp2_with fail
        go_roundw
        case rel => exact ⟨q + 1, by omega, by go_num, HQQ.out.more _⟩
        case measure => simp [intOf]; omega
      · have df : decide (y.Fn < fn) = false := decide_eq_false f1
        have df2 : (y.Fn == fn) = true := by simp; omega
        have df3 : decide (y.At < at') = true := decide_eq_true (by omega)
        clear f1 hbe
        go_wp2_with fail
        go_quiet (fail)
        go_wp2_with fail
        go_roundw
        case rel => exact ⟨q + 1, by omega, by go_num, HQQ.out.more _⟩
        case measure => simp [intOf]; omega
    · have hqe : q = p := by omega
      subst hqe
      have dq : decide (q < m) = true := decide_eq_true (by have := HZM.out; omega)
      obtain ⟨b6, o6, rfl, -, y0, y1, -⟩ := api_THead_elem (HAR.out _ hqq) (HZ.out)
      have dz1 : decide (z.Fn < fn) = false := decide_eq_false (by have := HEX.out; omega)
      have dz2 : (z.Fn == fn) = false := by have := HEX.out; simp; omega
      have dqi : (q : Int) < (m : Int) := by have := HZM.out; omega
      clear hqp
      go_wp2_with fail
      go_quiet (fail)
      clear y0 y1 dq dqi dz1 dz2
      generalize (some ({ block := b6, off := o6, spot := none } : Addr)) = a6 at *
      obtain ⟨wq, hwq⟩ : ∃ wq : World, wq = wr.drewN nq := ⟨_, rfl⟩
      have hQ := HQQ.out.more nq
      rw [← hwq] at hQ ⊢
      have HQ2 := Lib.hid hQ
      clear hQ hwq r0' r1' hqq
      have c0 := (HQ2.out.cell ⟨gc, 0, none⟩).trans r0
      have c1 := (HQ2.out.cell ⟨gc, 1, none⟩).trans r1
      have hnil9 := from_none (c := c6) (k := q) (z := 6) hnil
      have harr9 := (HAR.out _ HQ2.out).from c6 q (by rw [← HP.out.len]; exact hpm) (by rw [← HP.out.len]; exact hle)
      have hsl1 : ∀ w' : World, (Instr.slice 54 (.slice a6 m c6) none (some (.int .i64 (q : Int))) none).run Try.prog w' = .ok (.slice a6 q c6) w' := fun w' => run_slice_head (z := 6) Try.underlying54 (by kernel_rfl) a6 m c6 q (by omega) w'
      have hsl2 : ∀ w' : World, (Instr.slice 54 (.slice a6 m c6) (some (.int .i64 (q : Int))) none none).run Try.prog w' = .ok (.slice (if c6 = q then a6 else a6.map (·.add (q * 6))) (m - q) (c6 - q)) w' := fun w' => run_slice_tail (z := 6) Try.underlying54 (by kernel_rfl) a6 m c6 q hpm hle w'
      change Arr _ _ (if c6 = q then a6 else a6.map (·.add (q * 6))) _ at harr9
      generalize (if c6 = q then a6 else a6.map (·.add (q * 6))) = a9 at harr9 hnil9 hsl2
      have HN9 := Lib.hid hnil9
      have HSQ : Hid (HSt w wq (.slice a6 m c6) v7 (L, O)) := HP.out.st.keep (HQ2.out.below _)
      have HZQ : Hid (wj.heap.size = wq.heap.size) := by obtain ⟨nn, hnn⟩ := HQ2.out.ex; show _ = _; rw [hnn]; rfl
      have HA9 : Hid (∀ w', (∀ b, w.heap.size ≤ b → b < wq.heap.size → w'.heap[b]? = wq.heap[b]?) → Arr (fun b => False ∨ w.heap.size ≤ b ∧ b < wj.heap.size) w' a9 (L.drop q)) := fun w' hb => harr9.keep (fun b hb' => by
        rcases hb' with h | ⟨h1, h2⟩
        · exact h.elim
        · exact hb b h1 (by have := HZQ.out; omega))
      have HTK : Hid (∀ W, RowKit.Below wq.heap.size wq W → Calls Try.prog 48 #[.slice a6 q c6] W (fun e w1 => ∃ v8, e = .returned v8 ∧ Own (fun _ => False) w1 wq.heap.size 60 v8 (L.take q) ∧ RowKit.Below wq.heap.size wq w1 ∧ RowKit.Below W.heap.size W w1)) := fun W hW =>
        (copy_any (S := fun b => False ∨ w.heap.size ≤ b ∧ b < wj.heap.size) (by rw [List.length_take, ← HP.out.len]; omega) (arr_take ((HAR.out _ HQ2.out).keep (fun b hb => hW.block b (by rcases hb with h | h; exact h.elim; have := HZQ.out; omega))) q) hnil (by omega)).mono fun e w1 ⟨v8, h1, h2, h3⟩ =>
          ⟨v8, h1, own_base h2 hW.size, hW.trans (h3.mono hW.size), h3⟩
      have HDQ : Hid ((L.drop q).length = m - q) := by show _ = _; rw [List.length_drop, ← HP.out.len]
      have HKC : Hid (∀ W, RowKit.Below wq.heap.size wq W → W.cell? ⟨gc, 0, none⟩ = some (.int .i64 fn) ∧ W.cell? ⟨gc, 1, none⟩ = some (.int .i64 at')) := fun W hW => by
        have hl := HP.out.lt
        rw [HZQ.out] at hl
        exact ⟨(hW.cell (p := ⟨gc, 0, none⟩) hl).trans c0, (hW.cell (p := ⟨gc, 1, none⟩) hl).trans c1⟩
      have HBOX : Hid (∀ W : World, Blk (W.alloc (.cells #[.int .i64 fn, .int .i64 at', .int .i64 0, .int .i64 hot, .int .i64 0, .int .i64 0] 60)) W.heap.size 60 (hC (newH hot fn at'))) := fun W => blk_new W (hC (newH hot fn at')) 60
      have HINT := Lib.hid (head_in HGN.out)
      have HLT : Hid ((L.take q).length = q) := by show _ = _; rw [List.length_take, ← HP.out.len]; omega
      clear harr9 hnil9 hnil r0 r1 r2
      go_upto_region 33 with fail
      go_region_held3 (fun w' => w'.cell? ⟨gc, 0, none⟩ = some (.int .i64 fn) ∧ w'.cell? ⟨gc, 1, none⟩ = some (.int .i64 at')) (first | exact ⟨c0, c1⟩ | exact ⟨t0, t1⟩ | exact ⟨s0, s1⟩ | exact HKC.out _ (by repeat (first | with_reducible exact RowKit.Below.refl _ _ | with_reducible exact HB9.out | with_reducible exact HB8.out | with_reducible refine below_al ?_ | with_reducible refine below_dr ?_))) (first
        | (go_at_call 48; refine (HTK.out _ (by repeat (first | with_reducible exact RowKit.Below.refl _ _ | with_reducible exact HB9.out | with_reducible exact HB8.out | with_reducible refine below_al ?_ | with_reducible refine below_dr ?_))).mono ?_; rintro e w1 ⟨v8, rfl, ho8, hb8, hb8'⟩; have HB8 := Lib.hid hb8; obtain ⟨s0, s1⟩ := HKC.out w1 hb8; clear hb8)
        | (refine step_of_list rfl fun Q' hQ => ?_
           have hbk : Blk (w1.alloc (.cells #[.int .i64 fn, .int .i64 at', .int .i64 0, .int .i64 hot, .int .i64 0, .int .i64 0] 60)) w1.heap.size 60 (hC (newH hot fn at')) := HBOX.out w1
           have har : Arr (fun _ => True) (w1.alloc (.cells #[.int .i64 fn, .int .i64 at', .int .i64 0, .int .i64 hot, .int .i64 0, .int .i64 0] 60)) (some ⟨w1.heap.size, 0, none⟩) [newH hot fn at'] := (arr_one hbk HINT.out).mono fun _ _ => trivial
           have hbe : RowKit.Below wq.heap.size wq (w1.alloc (.cells #[.int .i64 fn, .int .i64 at', .int .i64 0, .int .i64 hot, .int .i64 0, .int .i64 0] 60)) := below_al HB8.out
           have how : Go.Bk.Own (fun _ => False) (w1.alloc (.cells #[.int .i64 fn, .int .i64 at', .int .i64 0, .int .i64 hot, .int .i64 0, .int .i64 0] 60)) wq.heap.size 60 v8 (L.take q) := own_al ho8
           refine Try.wp_apps54 (S := fun _ => False) (S2 := fun _ => True) (B := wq.heap.size) (xs := L.take q) (ys := [newH hot fn at']) rfl rfl rfl rfl rfl how har (fun cs y h => h) (fun h => by cases h) (fun _ h => h.elim) (by rw [HLT.out]; omega) hbe.size fun v9 w9 ho9 hg9 => ?_
           have HO9 : Hid (Go.Bk.Own (fun _ => False) w9 wq.heap.size 60 v9 (L.take q ++ [newH hot fn at'])) := ho9
           have HB9 : Hid (RowKit.Below wq.heap.size wq w9) := hbe.grown hg9 hbe.size (fun r hr => (ho8.lt r hr).1)
           obtain ⟨t0, t1⟩ := HKC.out w9 HB9.out
           refine (hQ _ _).2 ?_
           clear hQ Q' hg9 ho9 hb8' ho8 s0 s1 hbk har hbe how)
        | (refine step_of_list rfl fun Q' hQ => ?_
           have hbk : Blk (w1) wq.heap.size 60 (hC (newH hot fn at')) := blk_call hb8' (blk_dr (HBOX.out wq))
           have har : Arr (fun _ => True) (w1) (some ⟨wq.heap.size, 0, none⟩) [newH hot fn at'] := (arr_one hbk HINT.out).mono fun _ _ => trivial
           have hbe : RowKit.Below wq.heap.size wq (w1) := HB8.out
           have how : Go.Bk.Own (fun _ => False) (w1) wq.heap.size 60 v8 (L.take q) := ho8
           refine Try.wp_apps54 (S := fun _ => False) (S2 := fun _ => True) (B := wq.heap.size) (xs := L.take q) (ys := [newH hot fn at']) rfl rfl rfl rfl rfl how har (fun cs y h => h) (fun h => by cases h) (fun _ h => h.elim) (by rw [HLT.out]; omega) hbe.size fun v9 w9 ho9 hg9 => ?_
           have HO9 : Hid (Go.Bk.Own (fun _ => False) w9 wq.heap.size 60 v9 (L.take q ++ [newH hot fn at'])) := ho9
           have HB9 : Hid (RowKit.Below wq.heap.size wq w9) := hbe.grown hg9 hbe.size (fun r hr => (ho8.lt r hr).1)
           obtain ⟨t0, t1⟩ := HKC.out w9 HB9.out
           refine (hQ _ _).2 ?_
           clear hQ Q' hg9 ho9 hb8' ho8 s0 s1 hbk har hbe how)
        | (refine step_of_list rfl fun Q' hQ => ?_
           refine Try.wp_apps54 (S := fun _ => False) (S2 := fun _ => True) (B := wq.heap.size) (xs := L.take q ++ [newH hot fn at']) (ys := L.drop q) rfl rfl rfl rfl HDQ.out (show Go.Bk.Own (fun _ => False) _ wq.heap.size 60 v9 (L.take q ++ [newH hot fn at']) from (by repeat (first | with_reducible exact HO9.out | with_reducible refine own_al ?_ | with_reducible refine own_dr ?_))) ((HA9.out _ fun b _ hb => (show RowKit.Below wq.heap.size wq _ from (by repeat (first | with_reducible exact RowKit.Below.refl _ _ | with_reducible exact HB9.out | with_reducible exact HB8.out | with_reducible refine below_al ?_ | with_reducible refine below_dr ?_))).block b hb).mono fun _ _ => trivial) (fun cs y h => h) HN9.out (fun _ h => h.elim) (by rw [List.length_append, HLT.out]; show q + 1 + (m - q) ≤ _; omega) (show RowKit.Below wq.heap.size wq _ from (by repeat (first | with_reducible exact RowKit.Below.refl _ _ | with_reducible exact HB9.out | with_reducible exact HB8.out | with_reducible refine below_al ?_ | with_reducible refine below_dr ?_))).size fun v3 w3 ho3 hg3 => ?_
           have HO3 : Hid (Go.Bk.Own (fun _ => False) w3 wq.heap.size 60 v3 (L.take q ++ [newH hot fn at'] ++ L.drop q)) := ho3
           have HB3 : Hid (RowKit.Below wq.heap.size wq w3) := (show RowKit.Below wq.heap.size wq _ from (by repeat (first | with_reducible exact RowKit.Below.refl _ _ | with_reducible exact HB9.out | with_reducible exact HB8.out | with_reducible refine below_al ?_ | with_reducible refine below_dr ?_))).grown hg3 (show RowKit.Below wq.heap.size wq _ from (by repeat (first | with_reducible exact RowKit.Below.refl _ _ | with_reducible exact HB9.out | with_reducible exact HB8.out | with_reducible refine below_al ?_ | with_reducible refine below_dr ?_))).size (fun r hr => (HO9.out.lt r hr).1)
           obtain ⟨t0, t1⟩ := HKC.out w3 HB3.out
           refine (hQ _ _).2 ?_
           clear hQ Q' hg3 ho3 HO9 HB9)
        | fail)
      all_goals
        have hput : L.take q ++ [newH hot fn at'] ++ L.drop q = put (newH hot fn at') L := by
          rw [put_new (x := newH hot fn at') HXN.out]
          show _ = L.take (posn L fn at') ++ newH hot fn at' :: L.drop (posn L fn at')
          rw [← HPP.out, List.append_assoc]
          rfl
        have hst3 : HSt w w3 v3 v7 (put (newH hot fn at') L, O) := HSQ.out.fresh HB3.out (hput ▸ HO3.out)
        have hxp : (put (newH hot fn at') L)[q]? = some (newH hot fn at') := by rw [HPP.out]; exact put_at (x := newH hot fn at') HXN.out
        obtain ⟨g, cap, hv, hgw, hgl, hlec, -⟩ := hst3.at hxp
        have hqm : q < (put (newH hot fn at') L).length := (List.getElem?_eq_some_iff.1 hxp).1
        have HML : Hid ((put (newH hot fn at') L).length ≤ 1000) := by
          show _ ≤ _
          rw [put_len HP.out.inv.srt]
          have := HP.out.inv.few
          split <;> omega
        obtain ⟨m3, hm3⟩ : ∃ m3, m3 = (put (newH hot fn at') L).length := ⟨_, rfl⟩
        rw [← hm3] at hv hqm
        have hm3k : m3 ≤ 1000 := by rw [hm3]; exact HML.out
        subst hv
        obtain ⟨-, ⟨y0, y1, y2, y3, y4, y5⟩, hfz, -⟩ := hst3.at2 hxp
        change _ = some (Value.int .i64 0) at y2
        change _ = some (Value.int .i64 hot) at y3
        change _ = some (Value.int .i64 0) at y5
        have f2 := hfz (q * 6 + 2)
        have HBS : Hid (∀ W, w3.setCell ⟨g, q * 6 + 2, none⟩ (.int .i64 1) = W → W.cell? ⟨g, q * 6 + 2, none⟩ = some (.int .i64 1) ∧ W.cell? ⟨g, q * 6 + 3, none⟩ = some (.int .i64 hot) ∧ W.cell? ⟨g, q * 6 + 5, none⟩ = some (.int .i64 0) ∧ W.frozen? ⟨g, q * 6 + 5, none⟩ = false ∧
            ∀ z, HSt w (W.drewN z) (.slice (some ⟨g, 0, none⟩) m3 cap) v7 ((put (newH hot fn at') L).set q { newH hot fn at' with Count := 1 }, O) ∧ HSt w ((W.drewN z).setCell ⟨g, q * 6 + 5, none⟩ (.int .i64 1)) (.slice (some ⟨g, 0, none⟩) m3 cap) v7 ((put (newH hot fn at') L).set q { newH hot fn at' with Count := 1, Is := 1 }, O)) :=
          fun W hW => bump_stores hst3 hxp HGN.out rfl hW
        have HBN := Lib.hid (bump_new HGN.out)
        have HPS : Hid (∀ y : Api.THead, y.Fn = fn → y.At = at' → (put (newH hot fn at') L).set q y = put y L) := fun y h1 h2 => by
          have := put_set_new HP.out.inv.srt (x := newH hot fn at') (y := y) h1 h2 HXN.out
          rw [← this, HPP.out]
          rfl
        have HI : Hid (I64 0 ∧ I64 1) := ⟨by unfold I64; omega, by unfold I64; omega⟩
        clear hput hst3 hxp hgw hgl hm3 hfz HTK HA9 HBOX HKC HO3 hsl1 hsl2
        go_upto_region 40 with fail
        generalize hwz : w3.setCell ⟨g, q * 6 + 2, none⟩ (.int .i64 1) = wz
        obtain ⟨s2, s3, s5, sf, hss⟩ := HBS.out _ hwz
        have HSS := Lib.hid hss
        clear hwz hss y0 y1 y2 y3 y4 y5 f2 t0 t1 c0 c1
        by_cases hcl : (1 : Int) = hot
        · have d3 : ((1 : Int) == hot) = true := by simp; exact hcl
          have HB : Hid (bump (newH hot fn at') = ({ newH hot fn at' with Count := 1, Is := 1 }, 1)) := by show _ = _; rw [HBN.out, if_pos hcl]
          clear hcl
          go_quiet (fail)
          obtain ⟨z, hz⟩ : ∃ z, z = nq := ⟨_, rfl⟩
          rw [← hz]
          obtain ⟨hs1, hs2⟩ := HSS.out z
          have HS2 := Lib.hid hs2
          have HTO2 : Hid (Go.Bk.Own (fun _ => False) ((wz.drewN z).setCell ⟨g, q * 6 + 5, none⟩ (.int .i64 1)) w.heap.size 3 v7 O) := hs2.told
          have hi5 := HI.out.2
          clear hs1 hs2 hz
          go_wp2_with (at_builtin; (at_builtin; with_reducible refine Try.wp_appd23 rfl rfl rfl rfl rfl (by first | rfl | simp) (HTO2.out) (int_cells hi5 _ _) (fun _ h => h.elim) (by omega) (by exact HS2.out.below.size) fun v' w' hown' hg' hst' => ?_); have HQ := Lib.hid (HS2.out.push hown' hg' hst'); clear hown' hg' hst')
          apply HK1.out
          refine ⟨_, _, HT.out, ?_⟩
          rw [HB.out]
          have e := HPS.out ({ newH hot fn at' with Count := 1, Is := 1 }) rfl rfl
          dsimp only
          rw [← e]
          exact HQ.out
        · have d3 : ((1 : Int) == hot) = false := by simp; exact hcl
          have HB : Hid (bump (newH hot fn at') = ({ newH hot fn at' with Count := 1 }, 0)) := by show _ = _; rw [HBN.out, if_neg hcl]
          clear hcl
          go_quiet (fail)
          obtain ⟨z, hz⟩ : ∃ z, z = nq := ⟨_, rfl⟩
          rw [← hz]
          obtain ⟨hs1, hs2⟩ := HSS.out z
          have HS2 := Lib.hid hs1
          have HTO2 : Hid (Go.Bk.Own (fun _ => False) (wz.drewN z) w.heap.size 3 v7 O) := hs1.told
          have hi5 := HI.out.1
          clear hs1 hs2 hz
          go_wp2_with (at_builtin; (at_builtin; with_reducible refine Try.wp_appd23 rfl rfl rfl rfl rfl (by first | rfl | simp) (HTO2.out) (int_cells hi5 _ _) (fun _ h => h.elim) (by omega) (by exact HS2.out.below.size) fun v' w' hown' hg' hst' => ?_); have HQ := Lib.hid (HS2.out.push hown' hg' hst'); clear hown' hg' hst')
          apply HK1.out
          refine ⟨_, _, HT.out, ?_⟩
          rw [HB.out]
          have e := HPS.out ({ newH hot fn at' with Count := 1 }) rfl rfl
          dsimp only
          rw [← e]
          exact HQ.out
end
end Go.Proofs.Ytjlnaiiajlahgaa.heat
