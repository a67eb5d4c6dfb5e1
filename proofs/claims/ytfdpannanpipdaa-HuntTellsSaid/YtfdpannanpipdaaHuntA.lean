/- HuntTells: begin: the hunter is made, walked. -/
import Derived.Test.YtfdpannanpipdaaHuntPlain
import Derived.Test.YtfdpannanpipdaaSliceFb
import Derived.Test.YtfdpannanpipdaaApp
import Derived.Test.YtfdpannanpipdaaNormA
import Derived.Test.YtfdpannanpipdaaCells
set_option linter.unusedVariables false
set_option linter.unusedSimpArgs false
namespace Go.Proofs.Ytfdpannanpipdaa.hunt
open Go.Bk Go.RowKit slice

theorem errOf_first {l : List Api.DDep} {i : Int} {gs : List Int} (h : errOf l [i] ≠ 0) : errOf l (i :: gs) = errOf l [i] := by
  unfold errOf at *
  by_cases h1 : 200 < l.length
  · rw [if_pos h1, if_pos h1]
  · by_cases h2 : ¬ Valid l
    · rw [if_neg h1, if_neg h1, if_pos h2, if_pos h2]
    · rw [if_neg h1, if_neg h2] at h ⊢
      rw [if_neg h1, if_neg h2]
      by_cases h3 : inLen l i = true
      · simp [h3] at h
      · simp [h3]
theorem errOf_rest {l : List Api.DDep} {i : Int} {gs : List Int} (h : errOf l [i] = 0) : errOf l (i :: gs) = if gs.all (inLen l) then 0 else 1 := by
  obtain ⟨h1, h2, h3⟩ := errOf_zero h
  unfold errOf
  rw [if_neg (by omega), if_neg (by simpa using h2)]
  simp at h3
  simp [h3]
def backsTo (l : List Api.DDep) (q : Nat) : List (List Int) := (List.range q).map (backL l)
theorem backsTo_succ (l : List Api.DDep) (q : Nat) : backsTo l (q + 1) = backsTo l q ++ [backL l q] := by unfold backsTo; rw [List.range_succ, List.map_append]; rfl
theorem backsTo_len (l : List Api.DDep) (q : Nat) : (backsTo l q).length = q := by simp [backsTo]
theorem backsTo_get (l : List Api.DDep) {q k : Nat} (h : k < q) : (backsTo l q)[k]? = some (backL l k) := by unfold backsTo; rw [List.getElem?_map, List.getElem?_range h]; rfl
theorem backRes_ok {l : List Api.DDep} {i : Nat} (h : errOf l [(i : Int)] = 0) : backRes l i = (backL l i, 0) := by
  rw [backRes, if_pos h, Int.toNat_natCast]
  congr 1
  refine filt_congr (p := fun n => [backOf l i].all fun s => s.getD n false) fun k hk => ?_
  simp [backOf, List.getD_eq_getElem?_getD, List.getElem?_range hk]
theorem errOf_one {l : List Api.DDep} (h1 : l.length ≤ 200) (hv : Valid l) {i : Nat} (hi : i < l.length) : errOf l [(i : Int)] = 0 := errOf_ok (by omega) hv (by simp [inLen]; omega)
theorem bback_at {S : Nat → Prop} {w : World} {a : Option Addr} {c n : Nat} {l : List Api.DDep} {i : Int} (h : Arr S w a l) (hS : ∀ b, S b → b < w.heap.size) (hi : I64 i) (hn : l.length = n) :
    Calls Try.prog 136 #[.slice a n c, .int .i64 i] w (RetLE w (backRes l i)) := hn ▸ bback_any h hS hi

/-- The hunter lies at block hp. -/
def Hunter (w : World) (lo hp : Nat) (l : List Api.DDep) (n : Nat) : Prop :=
  ∃ a c, w.cell? ⟨hp, 0, none⟩ = some (.slice a n c) ∧ lo ≤ hp ∧ hp < w.heap.size ∧ Arr (fun b => lo ≤ b ∧ b < w.heap.size) w a (backsTo l n)
theorem Hunter.below {w w' : World} {lo hp n : Nat} {l : List Api.DDep} (h : Hunter w lo hp l n) (hb : Below w.heap.size w w') : Hunter w' lo hp l n := by
  obtain ⟨a, c, h1, h2, h3, h4⟩ := h
  exact ⟨a, c, (hb.cell (p := ⟨hp, 0, none⟩) h3).trans h1, h2, Nat.lt_of_lt_of_le h3 hb.size, (h4.keep (fun b hb' => hb.block b hb'.2)).mono (fun b hb' => ⟨hb'.1, Nat.lt_of_lt_of_le hb'.2 hb.size⟩)⟩
theorem Hunter.low {w : World} {lo lo' hp n : Nat} {l : List Api.DDep} (h : Hunter w lo hp l n) (hl : lo' ≤ lo) : Hunter w lo' hp l n := by
  obtain ⟨a, c, h1, h2, h3, h4⟩ := h
  exact ⟨a, c, h1, Nat.le_trans hl h2, h3, h4.mono (fun b hb => ⟨Nat.le_trans hl hb.1, hb.2⟩)⟩
def BegPost (l : List Api.DDep) (n : Nat) (E : Int) (w : World) (e : Ending) (w' : World) : Prop :=
  Below w.heap.size w w' ∧ ((E ≠ 0 ∧ e = .returned (.tuple #[.pointer none, .int .i64 E])) ∨ (E = 0 ∧ ∃ hp, e = .returned (.tuple #[.pointer (some ⟨hp, 0, none⟩), .int .i64 0]) ∧ Hunter w' w.heap.size hp l n))
def begRel (w2 : World) (hp n : Nat) (l : List Api.DDep) (i : Value) (w' : World) : Prop :=
  ∃ (q : Nat) (v : Value) (S : Nat → Prop), q ≤ n ∧ i = .int .i64 q ∧ Blk w' hp 168 [v] ∧ Own S w' w2.heap.size 30 v (backsTo l q) ∧ (∀ b, S b → w2.heap.size ≤ b ∧ b < w'.heap.size ∧ v.ownBlock ≠ some b) ∧ Below hp w2 w'

set_option maxRecDepth 100000 in
set_option maxHeartbeats 2000000 in
theorem begin_any {S S2 : Nat → Prop} {w : World} {a a2 : Option Addr} {c c2 n n2 : Nat} {E : Int} {l : List Api.DDep} {bad : Int} {good : List Int} (hn : l.length = n) (hn2 : good.length = n2) (h : Arr S w a l) (h2 : Arr S2 w a2 good) (hS : ∀ b, S b → b < w.heap.size) (hS2 : ∀ b, S2 b → b < w.heap.size) (hb : I64 bad) (hE : errOf l (bad :: good) = E) :
    Calls Try.prog 114 #[.slice a n c, .int .i64 bad, .slice a2 n2 c2] w (BegPost l n E w) := by
  have HN := Lib.hid hn; have HN2 := Lib.hid hn2
  have HC := Lib.hid (bback_at (c := c) h hS hb hn)
  have hm2 := h2.small
  rw [hn2] at hm2
  unfold maxLen at hm2
  clear hn hn2
  by_cases he : errOf l [bad] = 0
  · have hE2 := errOf_rest (gs := good) he
    rw [hE] at hE2
    obtain ⟨hl, hv, ha⟩ := errOf_zero he
    obtain ⟨bd, rfl, hbd⟩ := err_place ha
    rw [backRes_ok he] at HC
    rw [HN.out] at hl hbd
    have HV := Lib.hid hv; have HE2 := Lib.hid hE2
    clear hE hE2 hv ha he hb
    go_enter Try.func114, Try.ntmps114
    go_wp2_with fail
    refine HC.out.mono ?_
    rintro e w1 ⟨⟨a1, c1, rfl, har1, -, -⟩, hb1⟩
    have HB1 := Lib.hid hb1
    clear hb1 har1 HC
    go_wp2_with fail
    obtain ⟨hp, hhp⟩ : ∃ hp, w1.heap.size = hp := ⟨_, rfl⟩
    have hbl := blk_new w1 [.slice none 0 0] 168
    have hbz : Below hp w1 (w1.alloc (.cells #[.slice none 0 0] 168)) := (Below.refl _ _).alloc (by omega) _
    have hsz : (w1.alloc (.cells #[.slice none 0 0] 168)).heap.size = hp + 1 := by simp [hhp]
    rw [hhp] at hbl ⊢
    have hwp : w.heap.size ≤ hp := by rw [← hhp]; exact HB1.out.size
    generalize w1.alloc (.cells #[.slice none 0 0] 168) = w2 at *
    obtain ⟨bl, hbll⟩ : ∃ k, (backL l bd).length = k := ⟨_, rfl⟩
    rw [hbll]
    have HBL := Lib.hid hbl; have HSZ := Lib.hid hsz
    have HB2 : Hid (Below w.heap.size w w2) := HB1.out.trans (hbz.mono hwp)
    clear hbl hbz hsz hhp hbll
    go_loopw [29] (begRel w2 hp n l) (fun i _ => n - (intOf i).toNat)
    case atStart => exact ⟨0, _, fun _ => False, Nat.zero_le _, rfl, HBL.out, Own.nil _ _ _ _, fun b h => h.elim, Below.refl _ _⟩
    case round =>
      obtain ⟨q, v, S', hq, rfl, hblk, hown, hS', hbw⟩ := hrel
      have HO := Lib.hid hown; have HK := Lib.hid hblk; have HS' := Lib.hid hS'; have HBW := Lib.hid hbw
      have hWw : Below w.heap.size w wr := HB2.out.trans (hbw.mono hwp)
      have HWW := Lib.hid hWw
      have hsr : hp + 1 ≤ wr.heap.size := by have := hbw.size; rw [HSZ.out] at this; exact this
      clear hown hblk hS' hbw HBL
      by_cases hlt : q < n
      · have HCq := Lib.hid (bback_at (c := c) (i := (q : Int)) (h.keep (w' := wr) (fun b hb => hWw.block b (hS b hb))) (fun b hb => Nat.lt_of_lt_of_le (hS b hb) hWw.size) (by unfold I64; omega) HN.out)
        rw [backRes_ok (errOf_one (by rw [HN.out]; exact hl) HV.out (by rw [HN.out]; exact hlt))] at HCq
        obtain ⟨m, hm⟩ : ∃ m, (backL l q).length = m := ⟨_, rfl⟩
        have HM := Lib.hid hm
        clear hWw hm
        go_wp2_with fail
        refine HCq.out.mono ?_
        rintro e w3 ⟨⟨a3, c3, rfl, har3, hc3, hn3⟩, hb3⟩
        dsimp only at har3 hc3 ⊢
        rw [HM.out] at hc3 ⊢
        have hO3 : Own (fun b => S' b ∨ (wr.heap.size ≤ b ∧ b < w3.heap.size)) w3 w2.heap.size 30 v (backsTo l q) := (HO.out.below hb3 (fun b hb => (HS'.out b hb).2.1)).mono (fun b hb => .inl hb)
        have HO3 := Lib.hid hO3
        have HC3 : Hid (Rep.cells (fun b => S' b ∨ (wr.heap.size ≤ b ∧ b < w3.heap.size)) w3 [.slice a3 m c3] (backL l q)) := ⟨a3, c3, by rw [HM.out], by rw [HM.out]; exact hc3, hn3, har3.mono (fun b hb => .inr hb)⟩
        have HS3 : Hid (∀ b, (S' b ∨ (wr.heap.size ≤ b ∧ b < w3.heap.size)) → b < w3.heap.size ∧ v.ownBlock ≠ some b) := by
          rintro b (hb | hb)
          · exact ⟨Nat.lt_of_lt_of_le (HS'.out b hb).2.1 hb3.size, (HS'.out b hb).2.2⟩
          · exact ⟨hb.2, fun he => by have := (HO.out.lt b he).2; omega⟩
        have HL3 : Hid ((backsTo l q).length + 1 ≤ 1000000000) := by show _ ≤ _; rw [backsTo_len]; omega
        have hs3 : w2.heap.size ≤ w3.heap.size := Nat.le_trans (by rw [HSZ.out]; exact hsr) hb3.size
        have hp3 : hp < w3.heap.size := by have := hb3.size; omega
        have q1 : w3.cell? ⟨hp, 0, none⟩ = some v := (hb3.cell (p := ⟨hp, 0, none⟩) (by show hp < wr.heap.size; omega)).trans HK.out.cell0
        have HK3 := Lib.hid (HK.out.keep (hb3.block hp (by omega)))
        have HB3 := Lib.hid hb3
        have HGR : Hid (∀ (w' : World), w3.grownBy w' v.ownBlock → w'.cell? ⟨hp, 0, none⟩ = some v ∧ w'.frozen? ⟨hp, 0, none⟩ = false ∧ Blk w' hp 168 [v]) := fun w' hg => by
          have hk := HK3.out.keep (hg.block hp hp3 (fun he => by have := (HO.out.lt hp he.symm).1; rw [HSZ.out] at this; omega))
          exact ⟨hk.cell0, hk.frozen 0, hk⟩
        have HFM : Hid (∀ (w' : World) (v' : Value), Own (fun b => S' b ∨ (wr.heap.size ≤ b ∧ b < w3.heap.size)) w' w2.heap.size 30 v' (backsTo l q ++ [backL l q]) → ∃ a' c', v' = .slice a' (q + 1) c') := fun w' v' ho => by
          obtain ⟨a', c', hv, -⟩ := ho.arr
          rw [List.length_append, backsTo_len] at hv
          exact ⟨a', c', hv⟩
        have hSb3 : ∀ b, (S' b ∨ (wr.heap.size ≤ b ∧ b < w3.heap.size)) → w2.heap.size ≤ b := by
          rintro b (hb | hb)
          · exact (HS'.out b hb).1
          · exact Nat.le_trans (by rw [HSZ.out]; exact hsr) hb.1
        have HSB3 := Lib.hid hSb3
        clear hO3 har3 hc3 hn3 hb3 HCq hSb3
        go_wp2_with (at_builtin; (with_reducible refine Try.wp_appd72 (v := v) rfl rfl rfl rfl rfl (by first | rfl | simp) HO3.out HC3.out HS3.out HL3.out hs3 fun v' w4 hown' hg' hst' => ?_); obtain ⟨q2, q3, hk4⟩ := HGR.out _ hg'; obtain ⟨a4, c4, rfl⟩ := HFM.out _ _ hown'; have HN1 := Lib.hid hown'; have HN3 := Lib.hid hg'; have HN4 := Lib.hid hst'; have HK4 := Lib.hid hk4; clear hown' hg' hst' hk4)
        have hb4 : Below hp w3 (w4.setCell ⟨hp, 0, none⟩ (.slice a4 (q + 1) c4)) := ((Below.refl _ _).grown HN3.out (Nat.le_of_lt hp3) (fun k hk => by have := (HO.out.lt k hk).1; rw [HSZ.out] at this; omega)).setCell (p := ⟨hp, 0, none⟩) (Nat.le_refl _) _
        have HB4 := Lib.hid (HBW.out.trans ((HB3.out.mono (by omega)).trans hb4))
        have hgc : w4.grownBy (w4.setCell ⟨hp, 0, none⟩ (.slice a4 (q + 1) c4)) (some hp) := grownBy_setCell (World.grownBy.refl _ _) 0 _
        have hs4 : w3.heap.size ≤ w4.heap.size := HN3.out.size
        have HO4 : Hid (Own (fun b => S' b ∨ (wr.heap.size ≤ b ∧ b < w3.heap.size)) (w4.setCell ⟨hp, 0, none⟩ (.slice a4 (q + 1) c4)) w2.heap.size 30 (.slice a4 (q + 1) c4) (backsTo l (q + 1))) := by
          show Own _ _ _ _ _ _
          rw [backsTo_succ]
          refine HN1.out.keep hgc ?_ (fun b hb => ?_)
          · cases hv : (Value.slice a4 (q + 1) c4).ownBlock with
            | none => exact .inl rfl
            | some k => right; intro e; have := (HN1.out.lt k hv).1; rw [HSZ.out] at this; have := Option.some.inj e; omega
          · have := HSB3.out b hb
            rw [HSZ.out] at this
            exact hgc.block b (Nat.lt_of_lt_of_le (HS3.out b hb).1 hs4) (fun e => by have := Option.some.inj e; omega)
        have HS4 : Hid (∀ b, (S' b ∨ (wr.heap.size ≤ b ∧ b < w3.heap.size)) → w2.heap.size ≤ b ∧ b < (w4.setCell ⟨hp, 0, none⟩ (.slice a4 (q + 1) c4)).heap.size ∧ (Value.slice a4 (q + 1) c4).ownBlock ≠ some b) := fun b hb => by
          refine ⟨HSB3.out b hb, by rw [size_setCell]; exact Nat.lt_of_lt_of_le (HS3.out b hb).1 hs4, fun he => ?_⟩
          rcases HN4.out b he with h1 | h1
          · exact (HS3.out b hb).2 h1
          · have := (HS3.out b hb).1; omega
        have HK5 := Lib.hid (HK4.out.set 0 (.slice a4 (q + 1) c4))
        clear hb4 hgc hs4
        go_roundw
        case rel => exact ⟨q + 1, _, _, by omega, by go_num, HK5.out, HO4.out, HS4.out, HB4.out⟩
        case measure => simp [intOf]; omega
      · obtain rfl : q = n := by omega
        have HH : Hid (Hunter wr w.heap.size hp l q) := by
          obtain ⟨av, cv, hv, -, -, harr⟩ := HO.out.arr
          rw [backsTo_len] at hv
          refine ⟨av, cv, by rw [← hv]; exact HK.out.cell0, hwp, by omega, harr.mono fun b hb => ?_⟩
          rcases hb with hb | hb
          · exact ⟨Nat.le_trans (Nat.le_trans hwp (by rw [HSZ.out]; omega)) (HS'.out b hb).1, (HS'.out b hb).2.1⟩
          · exact ⟨Nat.le_trans (Nat.le_trans hwp (by rw [HSZ.out]; omega)) hb.1, hb.2⟩
        clear hWw HBW HO HK HS'
        obtain ⟨wo, rfl⟩ : ∃ wo : World, wo = wr := ⟨_, rfl⟩
        have h2' := h2.keep (w' := wo) (fun b hb => HWW.out.block b (hS2 b hb))
        clear h h2
        go_wp2_with fail
        go_loopw [51] (fun i w' => ∃ k : Nat, k ≤ n2 ∧ i = .int .i64 k ∧ ((good.take k).all (inLen l)) = true ∧ wo = w') (fun i _ => n2 - (intOf i).toNat)
        case atStart => exact ⟨0, Nat.zero_le _, rfl, rfl, rfl⟩
        case round =>
          obtain ⟨k, hk, rfl, hall, rfl⟩ := hrel
          have HAL := Lib.hid hall
          clear hall
          by_cases hkl : k < n2
          · obtain ⟨g, hg⟩ := norm.get_lt HN2.out hkl
            obtain ⟨b1, o1, rfl, -, q1, hgi⟩ := arr_int h2' hg
            have HGG := Lib.hid hg
            clear h2' hg
            by_cases hin : 0 ≤ g ∧ g < (q : Int)
            · have HP : Hid (inLen l g = true) := by show _ = _; rw [inLen, HN.out]; simp; omega
              have hd1 : decide (g < 0) = false := by simp; omega
              have hd2 : decide ((q : Int) ≤ g) = false := by simp; omega
              go_wp2_with fail
              go_roundw
              case rel => exact ⟨k + 1, by omega, by go_num, all_take_succ HGG.out HAL.out HP.out, by first | rfl | trivial⟩
              case measure => simp [intOf]; omega
            · have HP : Hid (inLen l g = false) := by show _ = _; rw [inLen, HN.out]; simp; omega
              have hE1 : E = 1 := by
                rw [HE2.out, if_neg]
                intro ha
                have := List.all_eq_true.1 ha g (List.mem_of_getElem? HGG.out)
                rw [HP.out] at this; cases this
              subst hE1
              by_cases h0 : g < 0
              · have hd1 : decide (g < 0) = true := by simp [h0]
                go_wp2_with fail
                go_ret2
                exact ⟨HWW.out, .inl ⟨by omega, rfl⟩⟩
              · have hd1 : decide (g < 0) = false := by simpa using h0
                have hd2 : decide ((q : Int) ≤ g) = true := by simp; omega
                go_wp2_with fail
                go_ret2
                exact ⟨HWW.out, .inl ⟨by omega, rfl⟩⟩
          · obtain rfl : k = n2 := by omega
            have hE0 : E = 0 := by
              rw [HE2.out, if_pos]
              have := HAL.out
              rwa [← HN2.out, List.take_length] at this
            subst hE0
            clear h2'
            go_wp2_with fail
            go_ret2
            exact ⟨HWW.out, .inr ⟨rfl, hp, rfl, HH.out⟩⟩
  · have hE2 := errOf_first (gs := good) he
    rw [hE] at hE2
    have HR : Hid (backRes l bad = ([], E)) := by show _ = _; rw [backRes, if_neg he, hE2]
    rw [← hE2] at he
    have hne : (E != 0) = true := by simp [he]
    have HE := Lib.hid he
    rw [HR.out] at HC
    clear h h2 hE2 hE he
    go_enter Try.func114, Try.ntmps114
    go_wp2_with fail
    refine HC.out.mono ?_
    rintro e w1 ⟨⟨a1, c1, rfl, -, -, -⟩, hb1⟩
    have HB1 := Lib.hid hb1
    clear hb1 HC
    go_wp2_with fail
    go_ret2
    exact ⟨HB1.out, .inl ⟨HE.out, rfl⟩⟩
end Go.Proofs.Ytfdpannanpipdaa.hunt
