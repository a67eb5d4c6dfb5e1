/- HeatTurns: All: walked. -/
import Derived.Test.YtjlnaiiajlahgaaHeatAb
import Derived.Test.YtjlnaiiajlahgaaCmpG
import Derived.Test.YtjlnaiiajlahgaaSortHG
import Derived.Test.YtjlnaiiajlahgaaApp
set_option linter.unusedVariables false
set_option linter.unusedSimpArgs false
namespace Go.Proofs.Ytjlnaiiajlahgaa.heat
open Go.Bk Go.RowKit Go.Maps Go.Sort Go.Proofs.Ytjlnaiiajlahgaa.lock

def cmpH (x y : Api.THead) : Int := or2 (cmp3 x.Fn y.Fn) (cmp3 x.At y.At)
theorem cmpH_lt (x y : Api.THead) : ltOf cmpH x y = true ↔ hlt x y := by
  unfold ltOf cmpH or2 cmp3 hlt
  rw [decide_eq_true_iff]
  split <;> split <;> (try split) <;> (try split) <;> (try split) <;> omega
theorem swoH : SWO (ltOf cmpH) where
  irrefl x := by
    rw [Bool.eq_false_iff]
    intro h
    have := (cmpH_lt x x).1 h
    unfold hlt at this
    omega
  trans x y z h1 h2 := by
    have h1 := (cmpH_lt x y).1 h1
    have h2 := (cmpH_lt y z).1 h2
    refine (cmpH_lt x z).2 ?_
    unfold hlt at *
    omega
  ntrans x y z h1 h2 := by
    rw [Bool.eq_false_iff] at *
    intro h
    have h := (cmpH_lt x z).1 h
    have h1 : ¬ hlt x y := fun h => h1 ((cmpH_lt x y).2 h)
    have h2 : ¬ hlt y z := fun h => h2 ((cmpH_lt y z).2 h)
    unfold hlt at *
    omega
set_option maxRecDepth 100000 in
set_option maxHeartbeats 1000000 in
theorem byH_any (w : World) (x y : Api.THead) : Calls Try.prog 50 #[.agg #[.int .i64 x.Fn, .int .i64 x.At, .int .i64 x.Count, .int .i64 x.Limit, .int .i64 x.Fails, .int .i64 x.Is], .agg #[.int .i64 y.Fn, .int .i64 y.At, .int .i64 y.Count, .int .i64 y.Limit, .int .i64 y.Fails, .int .i64 y.Is]] w fun e w' => e = .returned (.int .i64 (cmpH x y)) ∧ ∃ q os', w' = grow (w.drewN q) os' := by
  show Calls _ _ _ _ fun e w' => e = .returned (.int .i64 (or2 (cmp3 x.Fn y.Fn) (cmp3 x.At y.At))) ∧ ∃ q os', w' = grow (w.drewN q) os'
  have HC : Hid (∀ x y w, Calls Try.prog 52 #[.int .i64 x, .int .i64 y] w fun e w' => e = .returned (.int .i64 (cmp3 x y)) ∧ w' = w) := fun x y w => (compare_any w x y).mono fun e w' h => ⟨h.1, h.2.symm⟩
  go_enter Try.func50, Try.ntmps50
  go_wp2_with fail
  refine cut_wp (fun wz => (wz.cell? ⟨w.heap.size, 0, none⟩ = some (.int .i64 x.Fn) ∧ wz.cell? ⟨w.heap.size, 1, none⟩ = some (.int .i64 x.At) ∧ wz.cell? ⟨w.heap.size + 1, 0, none⟩ = some (.int .i64 y.Fn) ∧ wz.cell? ⟨w.heap.size + 1, 1, none⟩ = some (.int .i64 y.At)) ∧ ∃ os', wz = grow w os') ⟨?_, ?_⟩ ?_
  · go_light
    simp
  · exact ⟨_, by rw [alloc_eq_grow, alloc_eq_grow, grow_grow]⟩
  rintro wz ⟨⟨c0, c1, c2, c3⟩, hos⟩
  have HOS := Lib.hid hos
  clear hos
  go_still_tail 10, (by kernel_rfl)
  still_call (HC.out _ _ _)
  repeat still_step
  still_call (HC.out _ _ _)
  repeat still_step
  refine wpStill_nil ?_
  change wpList _ _ _ _ _ wz.drew
  have HO : Hid (∀ o, Calls Try.prog 51 #[.slice (some ⟨wz.heap.size, 0, none⟩) 2 2] (wz.alloc (.cells #[.int .i64 (cmp3 x.Fn y.Fn), .int .i64 (cmp3 x.At y.At)] o)).drew fun e w' => e = .returned (.int .i64 (or2 (cmp3 x.Fn y.Fn) (cmp3 x.At y.At))) ∧ (wz.alloc (.cells #[.int .i64 (cmp3 x.Fn y.Fn), .int .i64 (cmp3 x.At y.At)] o)).drew = w') := fun o => or_any ((blk_new wz [.int .i64 (cmp3 x.Fn y.Fn), .int .i64 (cmp3 x.At y.At)] o).cell (j := 0) rfl) ((blk_new wz [.int .i64 (cmp3 x.Fn y.Fn), .int .i64 (cmp3 x.At y.At)] o).cell (j := 1) rfl)
  clear c0 c1 c2 c3
  go_wp2_with (go_at_call 51; (with_reducible refine (HO.out _).mono ?_); rintro e w' ⟨rfl, rfl⟩)
  go_ret
  obtain ⟨os', rfl⟩ := HOS.out
  exact ⟨rfl, 1, os' ++ #[_], by rw [alloc_eq_grow, ← grow_grow]; rfl⟩
theorem mapF_some {l : List Api.THead} {k : Int × Int} {c : Value} (h : mapF l k = some c) : ∃ x, cur l k.1 k.2 = some x ∧ c = .agg #[.int .i64 x.Fn, .int .i64 x.At, .int .i64 x.Count, .int .i64 x.Limit, .int .i64 x.Fails, .int .i64 x.Is] := by
  unfold mapF at h
  cases hc : cur l k.1 k.2 with
  | none => rw [hc] at h; cases h
  | some x => rw [hc] at h; exact ⟨x, rfl, (Option.some.inj h).symm⟩
theorem head_in {x : Api.THead} (h : Good x) : I64 x.Fn ∧ I64 x.At ∧ I64 x.Count ∧ I64 x.Limit ∧ I64 x.Fails ∧ I64 x.Is := by
  unfold Good at h
  unfold I64
  refine ⟨?_, ?_, ?_, ?_, ?_, ?_⟩ <;> omega
/-- The range under way: what has come. -/
def allRel (w : World) (gm n : Nat) (l : List Api.THead) (v : Value) (w' : World) : Prop :=
  ∃ (acc : List (Int × Int)) (hs : List Api.THead) (cnt : Nat), ZRange placeKey w' gm w.heap.size n (mapF l) acc cnt ∧ Own (fun _ => False) w' (w.heap.size + 1) 60 v hs ∧ (∀ x ∈ hs, cur l x.Fn x.At = some x) ∧ hs.map (fun x => (x.Fn, x.At)) = acc ∧ acc.Nodup ∧ acc.length ≤ 100 ∧ Below w.heap.size w w'
theorem nodup_len {l : List Api.THead} (hl : Srt l) {hs : List Api.THead} (h1 : ∀ x ∈ hs, cur l x.Fn x.At = some x) (h2 : (hs.map fun x => (x.Fn, x.At)).Nodup) : hs.length ≤ l.length := by
  have hn : hs.Nodup := by
    rw [List.Nodup, List.pairwise_map] at h2
    exact h2.imp fun h e => h (by rw [e])
  exact hn.length_le_of_subset fun x hx => List.mem_of_find?_eq_some (h1 x hx)
theorem cur_self {l : List Api.THead} (hl : Srt l) {x : Api.THead} (hx : x ∈ l) : cur l x.Fn x.At = some x := by
  obtain ⟨i, hi⟩ := List.getElem?_of_mem hx
  refine (cur_iff hl).2 ⟨?_, rfl, rfl⟩
  rw [← at_posn hl hi]
  exact hi
theorem own_base {α : Type} [Rep α] {S : Nat → Prop} {w : World} {B B' : Nat} {e : TypeId} {v : Value} {xs : List α} (h : Own S w B e v xs) (hB : B' ≤ B) : Own S w B' e v xs := by
  obtain ⟨css, h1, h2, h3, h4⟩ := h
  refine ⟨css, h1, h2, h3, ?_⟩
  rcases h4 with h4 | ⟨g, cap, cur, h4, h5, h6⟩
  · exact .inl h4
  · exact .inr ⟨g, cap, cur, h4, Nat.le_trans hB h5, h6⟩
/-- All have come, and they are sorted. -/
theorem all_is {l hs ys : List Api.THead} (h : Inv l) {acc : List (Int × Int)} (h1 : ∀ x ∈ hs, cur l x.Fn x.At = some x) (h2 : hs.map (fun x => (x.Fn, x.At)) = acc) (h3 : acc.Nodup)
    (h4 : ∀ k, placeKey.good k → (mapF l k).isSome = true → k ∈ acc) (h5 : ys.Perm hs) (h6 : ys.Pairwise (fun x y => ltOf cmpH y x = false)) : ys = l := by
  have hn : hs.Nodup := by
    rw [← h2, List.Nodup, List.pairwise_map] at h3
    exact h3.imp fun h e => h (by rw [e])
  refine sorted_is h.srt ?_ (h5.nodup_iff.2 hn) fun x => ?_
  · refine h6.imp fun {a b} hab hlt' => ?_
    rw [(cmpH_lt _ _).2 hlt'] at hab
    cases hab
  · rw [h5.mem_iff]
    constructor
    · intro hx
      exact List.mem_of_find?_eq_some (h1 x hx)
    · intro hx
      have hc := cur_self h.srt hx
      have hi := head_in (h.good x hx)
      have hk := h4 (x.Fn, x.At) ⟨hi.1, hi.2.1⟩ (by unfold mapF; dsimp only; rw [hc]; rfl)
      rw [← h2] at hk
      obtain ⟨y, hy, he⟩ := List.mem_map.1 hk
      have e1 := congrArg Prod.fst he
      have e2 := congrArg Prod.snd he
      dsimp only at e1 e2
      have := h1 y hy
      rw [e1, e2, hc] at this
      rw [Option.some.inj this]
      exact hy
def AllPost (w : World) (l : List Api.THead) (e : Ending) (w' : World) : Prop := ∃ v, e = .returned v ∧ Own (fun _ => False) w' w.heap.size 60 v l ∧ Below w.heap.size w w'
set_option maxRecDepth 100000 in
set_option maxHeartbeats 4000000 in
theorem all_any {w : World} {B gH gm n : Nat} {hot : Int} {l : List Api.THead} (h : HeatAt w B gH gm n hot l) : Calls Try.prog 29 #[.pointer (some ⟨gH, 0, none⟩)] w (AllPost w l) := by
  have HH := Lib.hid h
  have b1 := h.box.cell (j := 1) rfl
  have hgm := h.map.lt
  clear h
  go_enter Try.func29, Try.ntmps29
  go_wp2_with (at_range; (with_reducible refine wp_zmap_range rfl rfl Try.underlying85 rfl HH.out.map ?_); intro w1 hr1 hg1 hs1)
  go_frame
  have HZ : Hid (allRel w gm n l (.slice none 0 0) w1) := ⟨[], [], _, hr1, Own.nil _ _ _ _, fun x hx => by simp at hx, rfl, List.Pairwise.nil, by simp, (Below.refl _ _).grown hg1 (Nat.le_refl _) (fun r hr => by cases hr)⟩
  clear hr1 hg1 hs1 b1
  go_loopw [3] (fun v w' => allRel w gm n l v w') (fun _ w' => w'.rangeLeft gm w.heap.size)
  case atStart => exact HZ.out
  case round =>
    clear HZ
    obtain ⟨acc, hs, cnt, hzr, hown, hcur, hkeys, hnd, hlen, hbel⟩ := hrel
    have HZR := Lib.hid hzr; have HO := Lib.hid hown; have HCU := Lib.hid hcur; have HK := Lib.hid hkeys; have HND := Lib.hid hnd; have HLN := Lib.hid hlen; have HB := Lib.hid hbel
    clear hzr hown hcur hkeys hnd hlen hbel
    have HKP : Hid (∀ w2, wr.grownBy w2 (some w.heap.size) → ∀ o, Own (fun _ => False) (w2.alloc o) (w.heap.size + 1) 60 u3 hs ∧ RowKit.Below w.heap.size w (w2.alloc o) ∧ w.heap.size + 1 ≤ (w2.alloc o).heap.size) := by
      intro w2 hg2 o
      have h1 := HO.out.keep hg2 (.inr (fun e => by have := (HO.out.lt _ e).1; omega)) (fun b hb => hb.elim)
      have h2 := HB.out.grown hg2 HB.out.size (fun r hr => by cases hr; exact Nat.le_refl _)
      have h3 := HZR.out.lt
      have h4 := hg2.size
      exact ⟨h1.alloc o (fun b hb => hb.elim), h2.alloc h2.size o, by simp; omega⟩
    go_wp2_with (first
      | (at_next; (with_reducible refine wp_zmap_next rfl rfl rfl HZR.out (fun hdone => ?_) (fun kx c k w2 cnt2 hgk hfk hna hzr2 hlt2 hg2 hs2 hen => ?_)); any_goals (obtain ⟨x, hx, hc⟩ := mapF_some hfk; subst hc; obtain ⟨hgx, hx1, hx2⟩ := cur_good HH.out.inv hx; obtain ⟨i1, i2, i3, i4, i5, i6⟩ := head_in hgx; have HGK := Lib.hid hgk; have HX := Lib.hid hx; have HX12 : Hid (x.Fn = k.1 ∧ x.At = k.2) := ⟨hx1, hx2⟩; have HNA := Lib.hid hna; have HZ2 := Lib.hid hzr2; have HLT := Lib.hid hlt2; have HG2 := Lib.hid hg2; have HFK := Lib.hid hfk; clear hgk hx hna hzr2 hlt2 hfk hgx hx1 hx2; have HO2 := Lib.hid (HKP.out w2 hg2 (.cells #[.int .i64 x.Fn, .int .i64 x.At, .int .i64 x.Count, .int .i64 x.Limit, .int .i64 x.Fails, .int .i64 x.Is] 60)); have hlen2 : hs.length ≤ 100 := (by have e1 := HK.out; have e2 := HLN.out; rw [← e1, List.length_map] at e2; exact e2); clear hg2 hs2))
      | (at_builtin; (at_builtin; with_reducible refine Try.wp_app54 rfl rfl rfl rfl rfl (by first | rfl | simp) (HO2.out.1) (api_THead_cells_mk i1 i2 i3 i4 i5 i6) (fun _ h => h.elim) (by omega) (by exact HO2.out.2.2) fun v' w' hown' hg' => ?_); have HO3 := Lib.hid hown'; have HG3 := Lib.hid hg'; clear hown' hg'))
    · have HD := Lib.hid hdone
      have hlen2 : hs.length ≤ 100 := by
        have e1 := HK.out; have e2 := HLN.out
        rw [← e1, List.length_map] at e2
        exact e2
      have HS := Lib.hid (sortFunc_gen swoH (enters_of Try.func50 (by kernel_rfl) rfl) byH_any HO.out (by omega))
      clear hdone hlen2
      refine HS.out.mono ?_
      rintro e w5 ⟨rfl, ys, hp, hpw, ho5, hg5⟩
      have HP : Hid (ys.Perm hs ∧ ys.Pairwise (fun x y => ltOf cmpH y x = false)) := ⟨hp, hpw⟩
      have HO5 := Lib.hid ho5
      have HB5 := Lib.hid (HB.out.grown hg5 HB.out.size (fun r hr => by have := (HO.out.lt r hr).1; omega))
      clear hp hpw ho5 hg5
      go_wp2_with fail
      go_ret
      have := all_is HH.out.inv HCU.out HK.out HND.out HD.out HP.out.1 HP.out.2
      rw [this] at HO5
      exact ⟨_, rfl, own_base HO5.out (by omega), HB5.out⟩
    · clear hlen2
      have hnd' : (acc ++ [k]).Nodup := List.nodup_append.2 ⟨HND.out, by simp, fun a ha b hb e => by
        rw [List.mem_singleton.1 hb] at e
        exact HNA.out (e ▸ ha)⟩
      have hcur' : ∀ y ∈ hs ++ [x], cur l y.Fn y.At = some y := fun y hy => by
        rcases List.mem_append.1 hy with hy | hy
        · exact HCU.out y hy
        · rw [List.mem_singleton.1 hy, HX12.out.1, HX12.out.2]
          exact HX.out
      have hmap' : (hs ++ [x]).map (fun x => (x.Fn, x.At)) = acc ++ [k] := by
        rw [List.map_append, HK.out]
        congr 1
        simp only [List.map_cons, List.map_nil]
        rw [HX12.out.1, HX12.out.2]
      have hlen' : (acc ++ [k]).length ≤ 100 := by
        have h1 := nodup_len HH.out.inv.srt hcur' (by rw [hmap']; exact hnd')
        have h2 := HH.out.inv.few
        rw [← hmap', List.length_map]
        omega
      have hz3 : ZRange placeKey w' gm w.heap.size n (mapF l) (acc ++ [k]) cnt2 := by
        refine (HZ2.out.alloc _).kept HG3.out (fun e => ?_) (fun e => ?_)
        · have := (HO.out.lt gm e.symm).1
          omega
        · have := (HO.out.lt w.heap.size e.symm).1
          omega
      have HALL : Hid (allRel w gm n l v' w') := ⟨acc ++ [k], hs ++ [x], cnt2, hz3, HO3.out, hcur', hmap', hnd', hlen', HO2.out.2.1.grown HG3.out HO2.out.2.1.size (fun r hr => by have := (HO.out.lt r hr).1; omega)⟩
      have HME : Hid (w'.rangeLeft gm w.heap.size < wr.rangeLeft gm w.heap.size) := by
        show _ < _
        rw [hz3.left_eq, HZR.out.left_eq]
        exact HLT.out
      clear hz3 hlen' hmap' hcur' hnd'
      go_roundw
      case rel => exact HALL.out
      case measure => exact HME.out
end Go.Proofs.Ytjlnaiiajlahgaa.heat
