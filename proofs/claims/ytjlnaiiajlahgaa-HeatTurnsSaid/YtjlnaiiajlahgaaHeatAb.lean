/- HeatTurns: Taken: walked. -/
import Derived.Test.YtjlnaiiajlahgaaHeatA
set_option linter.unusedVariables false
set_option linter.unusedSimpArgs false
namespace Go.Proofs.Ytjlnaiiajlahgaa.heat
open Go.Bk Go.RowKit Go.Maps

/-- Only the map's own block was turned of what there was. -/
def TakenPost (w : World) (B gH gm n : Nat) (hot : Int) (r : List Api.THead × Int) (e : Ending) (w' : World) : Prop :=
  e = .returned (.int .i64 r.2) ∧ HeatAt w' B gH gm (n + 1) hot r.1 ∧ w.grownBy w' (some gm)
theorem TakenPost.of {w W W' : World} {B gH gm n : Nat} {hot : Int} {l : List Api.THead} {y : Api.THead} {fn at' : Int} {g : Bool} (hT : takenL l fn at' g = (put y l, 0)) (hf : HeatAt W' B gH gm (n + 1) hot (put y l))
    (hB : Below (w.heap.size + 1) (w.alloc (.cells #[.int .i64 fn, .int .i64 at'] 89)) W) (hg : W.drew.grownBy W' (some gm)) : TakenPost w B gH gm n hot (takenL l fn at' g) (.returned (.int .i64 0)) W' := by
  rw [hT]
  refine ⟨rfl, hf, ?_⟩
  have h1 : Below w.heap.size w W := ((Below.refl _ _).alloc (Nat.le_refl _) _).trans (hB.mono (by simp))
  exact (grownBy_of h1.drew (Nat.le_refl _) (some gm)).andThen hg (fun j hj => .inr hj)
set_option maxRecDepth 100000 in
set_option maxHeartbeats 4000000 in
theorem taken_any {w : World} {B gH gm n : Nat} {hot fn at' : Int} {l : List Api.THead} (g : Bool) (h : HeatAt w B gH gm n hot l) (hn : n < 1000000000) (hf : I64 fn) (ha : I64 at') :
    Calls Try.prog 24 #[.pointer (some ⟨gH, 0, none⟩), .int .i64 fn, .int .i64 at', .bool g] w (TakenPost w B gH gm n hot (takenL l fn at' g)) := by
  have HH := Lib.hid h
  have b1 := h.box.cell (j := 1) rfl
  have hbl := h.box.lt
  clear h
  have HLH : Hid (∀ w' : World, w.grownBy w' (some gm) → HeatAt w B gH gm n hot l → w'.heap[gm]? = w.heap[gm]? → HeatAt w' B gH gm (n + 1) hot l) := fun w' hg hh he =>
    ⟨hh.box.keep (hg.block gH hh.box.lt (fun e => hh.ne (Option.some.inj e))), by
      obtain ⟨D, q1, q2⟩ := hh.map.block he
      exact ⟨D, q1.mono (Nat.le_succ n), q2⟩, hh.ne, hh.low, hh.inv⟩
  have hg0 : I64 fn ∧ I64 at' := ⟨hf, ha⟩
  have HG0 : Hid (placeKey.good (fn, at')) := hg0
  have HB1 : Hid (Below w.heap.size w (w.alloc (.cells #[.int .i64 fn, .int .i64 at'] 89))) := (Below.refl _ _).alloc (Nat.le_refl _) _
  have HS1 : Hid (∀ w', Below (w.heap.size + 1) (w.alloc (.cells #[.int .i64 fn, .int .i64 at'] 89)) w' → HeatAt w' B gH gm n hot l ∧ Blk w' w.heap.size 89 [.int .i64 fn, .int .i64 at']) := by
    intro w' hb
    have e1 : (w.alloc (.cells #[.int .i64 fn, .int .i64 at'] 89)).heap.size = w.heap.size + 1 := by simp
    exact ⟨(HH.out.below HB1.out).below (by rw [e1]; exact hb), (blk_new w [.int .i64 fn, .int .i64 at'] 89).keep (hb.block _ (by omega))⟩
  cases hc : cur l fn at' with
  | none =>
    have HS : Hid (∀ w', Below (w.heap.size + 1) (w.alloc (.cells #[.int .i64 fn, .int .i64 at'] 89)) w' → (w'.cell? ⟨gH, 1, none⟩ = some (.map (some gm)) ∧ w'.cell? ⟨w.heap.size, 0, none⟩ = some (.int .i64 fn) ∧ w'.cell? ⟨w.heap.size, 1, none⟩ = some (.int .i64 at') ∧
        (Instr.lookup 85 (.map (some gm)) (.agg #[.int .i64 fn, .int .i64 at']) true).run Try.prog w' = .ok (.tuple #[.agg #[.int .i64 0, .int .i64 0, .int .i64 0, .int .i64 0, .int .i64 0, .int .i64 0], .bool false]) w')) := by
      intro w' hb
      obtain ⟨k1, k2⟩ := HS1.out w' hb
      refine ⟨k1.box.cell (j := 1) rfl, k2.cell (j := 0) rfl, k2.cell (j := 1) rfl, ?_⟩
      have := k1.map.gmap.look true Try.underlying85 (zero_head w') (k := (fn, at')) hg0
      rw [show mapF l (fn, at') = none by unfold mapF; dsimp only; rw [hc]; rfl] at this
      exact this
    have HT : Hid (takenL l fn at' g = (l, 5)) := by show _ = _; unfold takenL; rw [hc]
    clear hc
    go_enter Try.func24, Try.ntmps24
    go_upto_region 2 with fail
    go_cut [10, 11] (fun s9 s10 wz => ∃ g9 : Nat, s9 = .pointer (some ⟨g9, 0, none⟩) ∧ s10 = .bool false ∧ Below (w.heap.size + 1) (w.alloc (.cells #[.int .i64 fn, .int .i64 at'] 89)) wz)
    case first =>
      go_region_held3 (fun w' => (w'.cell? ⟨gH, 1, none⟩ = some (.map (some gm)) ∧ w'.cell? ⟨w.heap.size, 0, none⟩ = some (.int .i64 fn) ∧ w'.cell? ⟨w.heap.size, 1, none⟩ = some (.int .i64 at') ∧
        (Instr.lookup 85 (.map (some gm)) (.agg #[.int .i64 fn, .int .i64 at']) true).run Try.prog w' = .ok (.tuple #[.agg #[.int .i64 0, .int .i64 0, .int .i64 0, .int .i64 0, .int .i64 0, .int .i64 0], .bool false]) w'))
        (exact HS.out _ (by repeat (first | exact Below.refl _ _ | refine Below.alloc ?_ (by simp) _ | refine Below.setCell (p := ⟨_, _, none⟩) ?_ (by simp) _ | refine Below.drew ?_)))
        (fail)
      all_goals go_wp2_with fail
      all_goals go_meet
      all_goals
        exact ⟨w.heap.size + 1, rfl, rfl, Below.drew ((Below.refl _ _).alloc (by first | omega | simp) _)⟩
    case rest =>
      obtain ⟨g9, rfl, rfl, hb9⟩ := hcut
      have HB9 := Lib.hid hb9
      clear hb9
      obtain ⟨w3, hw3⟩ : ∃ w3 : World, w3 = wc := ⟨_, rfl⟩
      rw [← hw3] at HB9 ⊢
      clear hw3 HS b1
      go_wp2_with fail
      go_ret
      rw [HT.out]
      have h1 : Below w.heap.size w w3 := HB1.out.trans (HB9.out.mono (by simp))
      exact ⟨rfl, HLH.out w3 (grownBy_of h1 (Nat.le_refl _) (some gm)) HH.out (h1.block gm HH.out.map.lt), grownBy_of h1 (Nat.le_refl _) (some gm)⟩
  | some x =>
    obtain ⟨hgx, rfl, rfl⟩ := cur_good HH.out.inv hc
    have HS : Hid (∀ w', Below (w.heap.size + 1) (w.alloc (.cells #[.int .i64 x.Fn, .int .i64 x.At] 89)) w' → (w'.cell? ⟨gH, 1, none⟩ = some (.map (some gm)) ∧ w'.cell? ⟨w.heap.size, 0, none⟩ = some (.int .i64 x.Fn) ∧ w'.cell? ⟨w.heap.size, 1, none⟩ = some (.int .i64 x.At) ∧
        (Instr.lookup 85 (.map (some gm)) (.agg #[.int .i64 x.Fn, .int .i64 x.At]) true).run Try.prog w' = .ok (.tuple #[.agg #[.int .i64 x.Fn, .int .i64 x.At, .int .i64 x.Count, .int .i64 x.Limit, .int .i64 x.Fails, .int .i64 x.Is], .bool true]) w')) := by
      intro w' hb
      obtain ⟨k1, k2⟩ := HS1.out w' hb
      refine ⟨k1.box.cell (j := 1) rfl, k2.cell (j := 0) rfl, k2.cell (j := 1) rfl, ?_⟩
      have := k1.map.gmap.look true Try.underlying85 (zero_head w') (k := (x.Fn, x.At)) hg0
      rw [show mapF l (x.Fn, x.At) = some (hV x) by unfold mapF; dsimp only; rw [hc]; rfl] at this
      exact this
    have HX := Lib.hid hc
    clear hc
    go_enter Try.func24, Try.ntmps24
    go_upto_region 2 with fail
    go_cut [10, 11] (fun s9 s10 wz => ∃ g9 : Nat, s9 = .pointer (some ⟨g9, 0, none⟩) ∧ s10 = .bool true ∧ Blk wz g9 60 (hC x) ∧ w.heap.size < g9 ∧ Below (w.heap.size + 1) (w.alloc (.cells #[.int .i64 x.Fn, .int .i64 x.At] 89)) wz)
    case first =>
      go_region_held3 (fun w' => (w'.cell? ⟨gH, 1, none⟩ = some (.map (some gm)) ∧ w'.cell? ⟨w.heap.size, 0, none⟩ = some (.int .i64 x.Fn) ∧ w'.cell? ⟨w.heap.size, 1, none⟩ = some (.int .i64 x.At) ∧
        (Instr.lookup 85 (.map (some gm)) (.agg #[.int .i64 x.Fn, .int .i64 x.At]) true).run Try.prog w' = .ok (.tuple #[.agg #[.int .i64 x.Fn, .int .i64 x.At, .int .i64 x.Count, .int .i64 x.Limit, .int .i64 x.Fails, .int .i64 x.Is], .bool true]) w'))
        (exact HS.out _ (by repeat (first | exact Below.refl _ _ | refine Below.alloc ?_ (by simp) _ | refine Below.setCell (p := ⟨_, _, none⟩) ?_ (by simp) _ | refine Below.drew ?_)))
        (fail)
      all_goals go_wp2_with fail
      all_goals go_meet
      all_goals
        refine ⟨w.heap.size + 1, rfl, rfl, ?_, by omega, Below.drew ((Below.refl _ _).alloc (by first | omega | simp) _)⟩
        have := blk_new (w.alloc (.cells #[.int .i64 x.Fn, .int .i64 x.At] 89)) (hC x) 60
        rw [show (w.alloc (.cells #[.int .i64 x.Fn, .int .i64 x.At] 89)).heap.size = w.heap.size + 1 by simp] at this
        exact this
    case rest =>
      obtain ⟨g9, rfl, rfl, hk9, hg9, hb9⟩ := hcut
      have HK9 := Lib.hid hk9; have HB9 := Lib.hid hb9
      obtain ⟨w3, hw3⟩ : ∃ w3 : World, w3 = wc := ⟨_, rfl⟩
      rw [← hw3] at HK9 HB9 hk9 hb9 ⊢
      have z2 := hk9.cell (j := 2) rfl; have z3 := hk9.cell (j := 3) rfl; have z4 := hk9.cell (j := 4) rfl; have z5 := hk9.cell (j := 5) rfl
      have f2 := hk9.frozen 2; have f3 := hk9.frozen 3; have f4 := hk9.frozen 4; have f5 := hk9.frozen 5
      clear hk9 hb9 hw3 HS b1
      have HEND : Hid (∀ (W4 : World) (y : Api.THead), Blk W4 g9 60 (hC y) → Below (w.heap.size + 1) (w.alloc (.cells #[.int .i64 x.Fn, .int .i64 x.At] 89)) W4 →
          HeatAt W4.drew B gH gm n hot l ∧ W4.cell? ⟨gH, 1, none⟩ = some (.map (some gm)) ∧ W4.cell? ⟨w.heap.size, 0, none⟩ = some (.int .i64 x.Fn) ∧ W4.cell? ⟨w.heap.size, 1, none⟩ = some (.int .i64 x.At) ∧
          W4.cell? ⟨g9, 0, none⟩ = some (.int .i64 y.Fn) ∧ W4.cell? ⟨g9, 1, none⟩ = some (.int .i64 y.At) ∧ W4.cell? ⟨g9, 2, none⟩ = some (.int .i64 y.Count) ∧ W4.cell? ⟨g9, 3, none⟩ = some (.int .i64 y.Limit) ∧ W4.cell? ⟨g9, 4, none⟩ = some (.int .i64 y.Fails) ∧ W4.cell? ⟨g9, 5, none⟩ = some (.int .i64 y.Is)) := by
        intro W4 y hk hb
        obtain ⟨k1, k2⟩ := HS1.out W4 hb
        exact ⟨k1.below (Below.refl _ _).drew, k1.box.cell (j := 1) rfl, k2.cell (j := 0) rfl, k2.cell (j := 1) rfl, hk.cell (j := 0) rfl, hk.cell (j := 1) rfl, hk.cell (j := 2) rfl, hk.cell (j := 3) rfl, hk.cell (j := 4) rfl, hk.cell (j := 5) rfl⟩
      by_cases i1 : x.Is = 1
      · have HI := Lib.hid i1
        have d1 : (x.Is != 1) = false := by simp [i1]
        have hgx2 := hgx
        unfold Good at hgx2
        have hb1 : 0 ≤ x.Fails := by omega
        have hb2 : x.Fails ≤ 3 := by omega
        have hb3 : x.Limit ≤ 8000 := by omega
        have hb4 : 1 ≤ x.Limit := by omega
        clear hgx2
        have HSB : Hid (∀ (W : World) (j : Nat) (v : Value), Below (w.heap.size + 1) (w.alloc (.cells #[.int .i64 x.Fn, .int .i64 x.At] 89)) W → Below (w.heap.size + 1) (w.alloc (.cells #[.int .i64 x.Fn, .int .i64 x.At] 89)) (W.setCell ⟨g9, j, none⟩ v)) :=
          fun W j v hb => hb.setCell (p := ⟨g9, j, none⟩) (by show w.heap.size + 1 ≤ g9; omega) _
        cases g with
        | true =>
          have HT : Hid (takenL l x.Fn x.At true = (put { x with Is := 2 } l, 0)) := by show _ = _; unfold takenL; rw [HX.out]; dsimp only; rw [if_neg (by simp [i1]), if_pos rfl]
          have HG1 : Hid (Good { x with Is := 2 }) := by show Good _; unfold Good at *; dsimp only; omega
          have HK5 : Hid (Blk (w3.setCell ⟨g9, 5, none⟩ (.int .i64 2)) g9 60 (hC { x with Is := 2 })) := HK9.out.set 5 _
          have HB5 := Lib.hid (HSB.out _ 5 (.int .i64 2) HB9.out)
          clear i1
          go_upto_region 12 with fail
          clear z2 z3 z4 z5 f2 f3 f4 f5
          generalize w3.setCell ⟨g9, 5, none⟩ (.int .i64 2) = W4 at *
          obtain ⟨hh, c1, p0, p1, y0, y1, y2, y3, y4, y5⟩ := HEND.out W4 { x with Is := 2 } HK5.out HB5.out
          have HHD := Lib.hid hh
          clear hh
          dsimp only at y0 y1 y2 y3 y4 y5
          go_still_tail 6, (by kernel_rfl)
          change wpList _ _ _ _ _ W4.drew
          go_wp2_with (at_mapUpdate; go_loud ((with_reducible refine wp_zmap_put rfl rfl Try.underlying85 rfl HHD.out.map (by omega) (k := (x.Fn, x.At)) (z := hV { x with Is := 2 }) (Eq.trans (b := placeV x.Fn x.At) rfl (placeKey_val _ _)) (Eq.trans (b := .agg #[.int .i64 x.Fn, .int .i64 x.At, .int .i64 x.Count, .int .i64 x.Limit, .int .i64 x.Fails, .int .i64 2]) rfl (hV_eq { x with Is := 2 })) HG0.out fun w5 hm' hg' => ?_); have HF := Lib.hid (HHD.out.laid (x := { x with Is := 2 }) HG1.out (.inl (by show (cur l x.Fn x.At).isSome = true; rw [HX.out]; rfl)) hm' hg'); have HG := Lib.hid hg'; clear hm' hg'))
          go_ret
          exact TakenPost.of HT.out HF.out HB5.out HG.out
        | false =>
          have HT : Hid (takenL l x.Fn x.At false = (put (worse x) l, 0)) := by show _ = _; unfold takenL; rw [HX.out]; dsimp only; rw [if_neg (by simp [i1]), if_neg (by simp)]
          have HGW : Hid (Good (worse x)) := worse_good hgx i1
          obtain ⟨F, hF⟩ : ∃ F, F = x.Fails + 1 := ⟨_, rfl⟩
          obtain ⟨LL, hLL⟩ : ∃ LL, LL = 2 * x.Limit := ⟨_, rfl⟩
          have HK5 : Hid (Blk ((((w3.setCell ⟨g9, 4, none⟩ (.int .i64 (x.Fails + 1))).setCell ⟨g9, 2, none⟩ (.int .i64 0)).setCell ⟨g9, 3, none⟩ (.int .i64 (2 * x.Limit))).setCell ⟨g9, 5, none⟩ (.int .i64 0)) g9 60 (hC { x with Fails := x.Fails + 1, Count := 0, Limit := 2 * x.Limit, Is := 0 })) := (((HK9.out.set 4 _).set 2 _).set 3 _).set 5 _
          have HB5 : Hid (Below (w.heap.size + 1) (w.alloc (.cells #[.int .i64 x.Fn, .int .i64 x.At] 89)) ((((w3.setCell ⟨g9, 4, none⟩ (.int .i64 (x.Fails + 1))).setCell ⟨g9, 2, none⟩ (.int .i64 0)).setCell ⟨g9, 3, none⟩ (.int .i64 (2 * x.Limit))).setCell ⟨g9, 5, none⟩ (.int .i64 0))) := HSB.out _ 5 _ (HSB.out _ 3 _ (HSB.out _ 2 _ (HSB.out _ 4 _ HB9.out)))
          clear i1 hF hLL
          by_cases h3 : 3 ≤ x.Fails + 1
          · have d3 : decide (3 ≤ x.Fails + 1) = true := decide_eq_true h3
            have HW : Hid (worse x = { x with Fails := x.Fails + 1, Count := 0, Limit := 2 * x.Limit, Is := 3 }) := by show _ = _; unfold worse; rw [if_pos h3]
            have HK6 : Hid (Blk (((((w3.setCell ⟨g9, 4, none⟩ (.int .i64 (x.Fails + 1))).setCell ⟨g9, 2, none⟩ (.int .i64 0)).setCell ⟨g9, 3, none⟩ (.int .i64 (2 * x.Limit))).setCell ⟨g9, 5, none⟩ (.int .i64 0)).setCell ⟨g9, 5, none⟩ (.int .i64 3)) g9 60 (hC { x with Fails := x.Fails + 1, Count := 0, Limit := 2 * x.Limit, Is := 3 })) := HK5.out.set 5 _
            have HB6 : Hid (Below (w.heap.size + 1) (w.alloc (.cells #[.int .i64 x.Fn, .int .i64 x.At] 89)) (((((w3.setCell ⟨g9, 4, none⟩ (.int .i64 (x.Fails + 1))).setCell ⟨g9, 2, none⟩ (.int .i64 0)).setCell ⟨g9, 3, none⟩ (.int .i64 (2 * x.Limit))).setCell ⟨g9, 5, none⟩ (.int .i64 0)).setCell ⟨g9, 5, none⟩ (.int .i64 3))) := HSB.out _ 5 _ HB5.out
            clear h3 HK5 HB5
            go_upto_region 12 with fail
            clear z2 z3 z4 z5 f2 f3 f4 f5 d3
            generalize ((((w3.setCell ⟨g9, 4, none⟩ (.int .i64 (x.Fails + 1))).setCell ⟨g9, 2, none⟩ (.int .i64 0)).setCell ⟨g9, 3, none⟩ (.int .i64 (2 * x.Limit))).setCell ⟨g9, 5, none⟩ (.int .i64 0)).setCell ⟨g9, 5, none⟩ (.int .i64 3) = W4 at *
            obtain ⟨hh, c1, p0, p1, y0, y1, y2, y3, y4, y5⟩ := HEND.out W4 { x with Fails := x.Fails + 1, Count := 0, Limit := 2 * x.Limit, Is := 3 } HK6.out HB6.out
            have HHD := Lib.hid hh
            clear hh
            dsimp only at y0 y1 y2 y3 y4 y5
            go_still_tail 6, (by kernel_rfl)
            change wpList _ _ _ _ _ W4.drew
            go_wp2_with (at_mapUpdate; go_loud ((with_reducible refine wp_zmap_put rfl rfl Try.underlying85 rfl HHD.out.map (by omega) (k := (x.Fn, x.At)) (z := hV { x with Fails := x.Fails + 1, Count := 0, Limit := 2 * x.Limit, Is := 3 }) (Eq.trans (b := placeV x.Fn x.At) rfl (placeKey_val _ _)) (Eq.trans (b := .agg #[.int .i64 x.Fn, .int .i64 x.At, .int .i64 0, .int .i64 (2 * x.Limit), .int .i64 (x.Fails + 1), .int .i64 3]) rfl (hV_eq { x with Fails := x.Fails + 1, Count := 0, Limit := 2 * x.Limit, Is := 3 })) HG0.out fun w5 hm' hg' => ?_); have HF := Lib.hid (HHD.out.laid (x := { x with Fails := x.Fails + 1, Count := 0, Limit := 2 * x.Limit, Is := 3 }) (HW.out ▸ HGW.out) (.inl (by show (cur l x.Fn x.At).isSome = true; rw [HX.out]; rfl)) hm' hg'); have HG := Lib.hid hg'; clear hm' hg'))
            go_ret
            exact TakenPost.of (HT.out.trans (by rw [HW.out])) HF.out HB6.out HG.out
          · have d3 : decide (3 ≤ x.Fails + 1) = false := decide_eq_false h3
            have HW : Hid (worse x = { x with Fails := x.Fails + 1, Count := 0, Limit := 2 * x.Limit, Is := 0 }) := by show _ = _; unfold worse; rw [if_neg h3]
            clear h3
            go_upto_region 12 with fail
            clear z2 z3 z4 z5 f2 f3 f4 f5 d3
            generalize (((w3.setCell ⟨g9, 4, none⟩ (.int .i64 (x.Fails + 1))).setCell ⟨g9, 2, none⟩ (.int .i64 0)).setCell ⟨g9, 3, none⟩ (.int .i64 (2 * x.Limit))).setCell ⟨g9, 5, none⟩ (.int .i64 0) = W4 at *
            obtain ⟨hh, c1, p0, p1, y0, y1, y2, y3, y4, y5⟩ := HEND.out W4 { x with Fails := x.Fails + 1, Count := 0, Limit := 2 * x.Limit, Is := 0 } HK5.out HB5.out
            have HHD := Lib.hid hh
            clear hh
            dsimp only at y0 y1 y2 y3 y4 y5
            go_still_tail 6, (by kernel_rfl)
            change wpList _ _ _ _ _ W4.drew
            go_wp2_with (at_mapUpdate; go_loud ((with_reducible refine wp_zmap_put rfl rfl Try.underlying85 rfl HHD.out.map (by omega) (k := (x.Fn, x.At)) (z := hV { x with Fails := x.Fails + 1, Count := 0, Limit := 2 * x.Limit, Is := 0 }) (Eq.trans (b := placeV x.Fn x.At) rfl (placeKey_val _ _)) (Eq.trans (b := .agg #[.int .i64 x.Fn, .int .i64 x.At, .int .i64 0, .int .i64 (2 * x.Limit), .int .i64 (x.Fails + 1), .int .i64 0]) rfl (hV_eq { x with Fails := x.Fails + 1, Count := 0, Limit := 2 * x.Limit, Is := 0 })) HG0.out fun w5 hm' hg' => ?_); have HF := Lib.hid (HHD.out.laid (x := { x with Fails := x.Fails + 1, Count := 0, Limit := 2 * x.Limit, Is := 0 }) (HW.out ▸ HGW.out) (.inl (by show (cur l x.Fn x.At).isSome = true; rw [HX.out]; rfl)) hm' hg'); have HG := Lib.hid hg'; clear hm' hg'))
            go_ret
            exact TakenPost.of (HT.out.trans (by rw [HW.out])) HF.out HB5.out HG.out
      · have d1 : (x.Is != 1) = true := by simp [i1]
        have HT : Hid (takenL l x.Fn x.At g = (l, 8)) := by show _ = _; unfold takenL; rw [HX.out]; dsimp only; rw [if_pos i1]
        clear i1
        go_wp2_with fail
        go_ret
        rw [HT.out]
        have h1 : Below w.heap.size w w3 := HB1.out.trans (HB9.out.mono (by simp))
        exact ⟨rfl, HLH.out w3 (grownBy_of h1 (Nat.le_refl _) (some gm)) HH.out (h1.block gm HH.out.map.lt), grownBy_of h1 (Nat.le_refl _) (some gm)⟩
end Go.Proofs.Ytjlnaiiajlahgaa.heat
