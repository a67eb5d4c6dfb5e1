/- dead.values, dead.Do's mark; R.Names: walked. -/
import Derived.Test.YtekofpigmggbbaaDoorDeadPlain
import Derived.Test.YtekofpigmggbbaaDoorChkE
import Derived.Test.YtekofpigmggbbaaDoorSteps
import Derived.Deep.RegionLaw
import Derived.Deep.DrawnRows
set_option linter.unusedVariables false
set_option linter.unusedSimpArgs false
namespace Go.Proofs.YtekofpigmggbbaaDoor.ded
open Go.Bk Go.RowKit Go.Proofs.YtekofpigmggbbaaDoor.ir Go.Proofs.YtekofpigmggbbaaDoor.chk Go.Proofs.YtekofpigmggbbaaDoor.cut
attribute [local go_sem ↓] Go.wp_at_zero Go.wp_at_succ

def setVals (x : Api.TExit) : List Int := x.Sets.map (·.Val)
def makeTo (x : Api.TExit) (k : Nat) : List Int := setVals x ++ (x.Makes.take k).flatMap makeVals
theorem setVals_take {x : Api.TExit} {k : Nat} {s : Api.TSet} (h : x.Sets[k]? = some s) : (setVals x).take (k + 1) = (setVals x).take k ++ [s.Val] := by
  rw [List.take_add_one]
  simp [setVals, h]
theorem makeTo_succ {x : Api.TExit} {k : Nat} {m : Api.TMake} (h : x.Makes[k]? = some m) : makeTo x (k + 1) = makeTo x k ++ [m.Cell] ++ m.Vals := by
  unfold makeTo
  rw [List.take_add_one, h]
  simp [List.flatMap_append, makeVals]
theorem makeTo_len {x : Api.TExit} (hs : x.Sets.length ≤ 60) (hm : x.Makes.length ≤ 300) (hv : ∀ m ∈ x.Makes, m.Vals.length ≤ 100) : ∀ k, (makeTo x k).length ≤ 60 + k * 101
  | 0 => by simp [makeTo, setVals]; omega
  | k + 1 => by
    have := makeTo_len hs hm hv k
    cases h : x.Makes[k]? with
    | none =>
      have hl := List.getElem?_eq_none_iff.1 h
      have : makeTo x (k + 1) = makeTo x k := by unfold makeTo; rw [List.take_of_length_le (by omega), List.take_of_length_le hl]
      rw [this]; omega
    | some m =>
      have := hv m (List.mem_of_getElem? h)
      rw [makeTo_succ h, List.length_append, List.length_append]
      simp
      omega
theorem makeTo_all (x : Api.TExit) : makeTo x x.Makes.length = exVals x := by unfold makeTo exVals setVals; rw [List.take_length]
theorem makeTo_zero (x : Api.TExit) : makeTo x 0 = setVals x := by simp [makeTo]
/-- A list in the making beside the box of an exit. -/
structure VS (w : World) (X : Array Value) (v : Value) (l : List Int) (W : World) : Prop where
  box : Row W w.heap.size 32 X
  own : Own (fun _ => False) W (w.heap.size + 1) 3 v l
  below : Below w.heap.size w W
  size : w.heap.size + 1 ≤ W.heap.size
theorem VS.call {w W W' : World} {X : Array Value} {v : Value} {l : List Int} (h : VS w X v l W) (hb : Below W.heap.size W W') : VS w X v l W' :=
  ⟨h.box.keep (hb.block _ h.box.lt), h.own.below hb (fun _ h => h.elim), h.below.trans (hb.mono h.below.size), Nat.le_trans h.size hb.size⟩
theorem VS.grown {w W W' : World} {X : Array Value} {v v' : Value} {l l' : List Int} (h : VS w X v l W) (hg : W.grownBy W' v.ownBlock) (ho : Own (fun _ => False) W' (w.heap.size + 1) 3 v' l') : VS w X v' l' W' :=
  ⟨h.box.keep (hg.block _ h.box.lt (fun e => by have := (h.own.lt _ (by first | exact e | exact e.symm)).1; omega)), ho, h.below.grown hg h.below.size (fun r hr => by have := (h.own.lt r hr).1; omega), Nat.le_trans h.size hg.size⟩
set_option maxRecDepth 100000 in
set_option maxHeartbeats 4000000 in
theorem dvalues_any {S : Nat → Prop} {w : World} {X : Array Value} {x : Api.TExit} (hx : Rep.cells S w X.toList x) (hS : ∀ b, S b → b < w.heap.size) (hs : x.Sets.length ≤ 60) (hm : x.Makes.length ≤ 300) (hv : ∀ m ∈ x.Makes, m.Vals.length ≤ 100) :
    Calls Tryd.prog 45 #[.agg X] w (RetL w (exVals x)) := by
  obtain ⟨a2, a3, nS, c2, nM, c3, hX⟩ := xin_of hx
  obtain ⟨w1, hw1⟩ : ∃ w1, w1 = w.alloc (.cells X 32) := ⟨_, rfl⟩
  have hb1 : Below w.heap.size w w1 := by rw [hw1]; exact cod.below_al2 _
  have rX := row_new w X 32
  rw [← hw1] at rX
  have HV1 : Hid (VS w X (.slice none 0 0) [] w1) := ⟨rX, Own.nil _ _ _ _, hb1, by rw [hw1]; simp⟩
  have HC3 := Lib.hid hX.c3; have HLS := Lib.hid hX.lenS; have HLM := Lib.hid hX.lenM
  have HSE : Hid (∀ W, Below w.heap.size w W → Arr S W a2 x.Sets) := fun W hb => hX.sets.keep fun b hb' => hb.block b (hS b hb')
  have HMA : Hid (∀ W, Below w.heap.size w W → Arr S W a3 x.Makes) := fun W hb => hX.makes.keep fun b hb' => hb.block b (hS b hb')
  have HDOM := Lib.hid hS
  have HTL : Hid (∀ k, k ≤ 300 → (makeTo x k).length ≤ 40000) := fun k hk => by have := makeTo_len hs hm hv k; omega
  have HMV := Lib.hid hv
  have hnS : nS ≤ 60 := by rw [← hX.lenS]; exact hs
  have hnM : nM ≤ 300 := by rw [← hX.lenM]; exact hm
  have t2 := rX.cell hX.c2
  have lX := rX.lt
  clear hx hS hX hb1 rX hs hm hv
  go_enter Tryd.func45, Tryd.ntmps45
  go_upto_region 1 with fail
  rw [← hw1]
  clear hw1
  go_wp2_with fail
  clear t2 lX
  go_loopw [3, 11] (fun s3 s11 W => ∃ k : Nat, k ≤ nS ∧ s11 = .int .i64 k ∧ VS w X s3 ((setVals x).take k) W) (fun _ s _ => nS - (intOf s).toNat)
  case atStart => exact ⟨0, Nat.zero_le _, rfl, HV1.out⟩
  case round =>
    clear HV1
    obtain ⟨k, hk, rfl, hvs⟩ := hrel
    by_cases hlt : k < nS
    · as_aux_lemma =>
        obtain ⟨s, hs⟩ : ∃ s, x.Sets[k]? = some s := ⟨_, List.getElem?_eq_getElem (by rw [HLS.out]; exact hlt)⟩
        obtain ⟨bs, os, rfl, hSb, y0, y1, i0, i1⟩ := api_TSet_elem (HSE.out wr hvs.below) hs
        have hbs : bs < wr.heap.size := Nat.lt_of_lt_of_le (HDOM.out bs hSb) hvs.below.size
        obtain ⟨w5, hw5⟩ : ∃ w5, w5 = wr.alloc (.cells #[.int .i64 s.Reg, .int .i64 s.Val] 98) := ⟨_, rfl⟩
        have hb5 : Below wr.heap.size wr w5 := by rw [hw5]; exact cod.below_al2 _
        have hrow := row_new wr #[.int .i64 s.Reg, .int .i64 s.Val] 98
        rw [← hw5] at hrow
        have z1 := hrow.cell (j := 1) rfl
        have lz := hrow.lt
        have hv5 := hvs.call hb5
        obtain ⟨va, vc, hva, -⟩ := hv5.own.arr
        obtain ⟨vn, hvl⟩ : ∃ n, n = ((setVals x).take k).length := ⟨_, rfl⟩
        rw [← hvl] at hva
        subst hva
        have hvn : ((setVals x).take k).length ≤ 60 := by rw [List.length_take]; omega
        have HVN := Lib.hid hvn
        have HM : Hid (Rep.cells (fun _ => False) w5 [.int .i64 s.Val] s.Val) := ⟨rfl, i1⟩
        have HV5 := Lib.hid hv5
        have hsz5 := hv5.size
        have HTK := Lib.hid (setVals_take hs)
        clear hvl hvn hs hSb hvs hv5 hb5 hrow
        go_upto_region 5 with fail
        rw [← hw5]
        clear hw5 y0 y1 hbs
        go_wp2_with (at_builtin; (with_reducible refine Tryd.wp_appd58 (S := fun _ => False) (v := .slice va vn vc) (xs := (setVals x).take k) (y := s.Val) (cs := [.int .i64 s.Val]) (w0 := w5) rfl rfl (by with_unfolding_all rfl) rfl rfl (by first | rfl | omega) HV5.out.own HM.out (fun _ h => h.elim) (by have := HVN.out; omega) (by omega) fun v7 w7 hown7 hg7 hst7 => ?_); have HV7 := Lib.hid (HV5.out.grown hg7 hown7); clear hown7 hg7 hst7)
        go_roundw
        case rel => exact ⟨k + 1, by omega, by go_num, by rw [HTK.out]; exact HV7.out⟩
        case measure => simp [intOf]; omega
    · have hkn : k = nS := by omega
      subst hkn
      have hall : (setVals x).take k = makeTo x 0 := by rw [makeTo_zero, List.take_of_length_le (by simp [setVals, HLS.out])]
      rw [hall] at hvs
      have HV0 := Lib.hid hvs
      have t3 := hvs.box.cell HC3.out
      have lX := hvs.box.lt
      clear hall hvs hlt hk
      go_wp2_with fail
      clear t3 lX
      go_loopw [3, 24] (fun s3 s24 W => ∃ k : Nat, k ≤ nM ∧ s24 = .int .i64 k ∧ VS w X s3 (makeTo x k) W) (fun _ s _ => nM - (intOf s).toNat)
      case atStart => exact ⟨0, Nat.zero_le _, rfl, HV0.out⟩
      case round =>
        clear HV0
        obtain ⟨q, hq, rfl, hvs⟩ := hrel
        by_cases hlt : q < nM
        · as_aux_lemma =>
            obtain ⟨m, hm⟩ : ∃ m, x.Makes[q]? = some m := ⟨_, List.getElem?_eq_getElem (by rw [HLM.out]; exact hlt)⟩
            obtain ⟨bm, om, cs, haM, hSb, hcs, hj⟩ := (HMA.out wr hvs.below).at hm
            obtain ⟨aV, cV, rfl, j0, j1, j2, hVc, hVn, hVA⟩ := api_TMake_cells_eq hcs
            have y0 := hj 0 (by show 0 < 4; omega); have y1 := hj 1 (by show 1 < 4; omega); have y2 := hj 2 (by show 2 < 4; omega); have y3 := hj 3 (by show 3 < 4; omega)
            simp only [show Rep.sz Api.TMake = 4 from rfl, List.getElem?_cons_zero, List.getElem?_cons_succ, Nat.add_zero] at y0 y1 y2 y3
            subst haM
            have hbm : bm < wr.heap.size := Nat.lt_of_lt_of_le (HDOM.out bm hSb) hvs.below.size
            obtain ⟨nV, hnV⟩ : ∃ n, n = m.Vals.length := ⟨_, rfl⟩
            rw [← hnV] at y3 hVc
            have HNV : Hid (m.Vals.length = nV) := hnV.symm
            have hnV2 : nV ≤ 100 := by rw [hnV]; exact HMV.out m (List.mem_of_getElem? hm)
            obtain ⟨w5, hw5⟩ : ∃ w5, w5 = wr.alloc (.cells #[.int .i64 m.Cell, .int .i64 m.Kind, .int .i64 m.Num, .slice aV nV cV] 100) := ⟨_, rfl⟩
            have hb5 : Below wr.heap.size wr w5 := by rw [hw5]; exact cod.below_al2 _
            have hrow := row_new wr #[.int .i64 m.Cell, .int .i64 m.Kind, .int .i64 m.Num, .slice aV nV cV] 100
            rw [← hw5] at hrow
            obtain ⟨gm, hgm⟩ : ∃ g, g = wr.heap.size := ⟨_, rfl⟩
            rw [← hgm] at hrow
            have z0 := hrow.cell (j := 0) rfl
            have z3 := hrow.cell (j := 3) rfl
            have lz := hrow.lt
            have hv5 := hvs.call hb5
            have HV5 := Lib.hid hv5
            have HOD : Hid (Own (fun _ => False) w5.drew (w.heap.size + 1) 3 u3 (makeTo x q)) := hv5.own
            have HCI : Hid (Rep.cells (fun _ => False) w5.drew [.int .i64 m.Cell] m.Cell) := ⟨rfl, j0⟩
            have HLN := Lib.hid (HTL.out q (by omega))
            have HNX : Hid (∀ v6 w6, Own (fun _ => False) w6 (w.heap.size + 1) 3 v6 (makeTo x q ++ [m.Cell]) → w5.drew.grownBy w6 u3.ownBlock → VS w X v6 (makeTo x q ++ [m.Cell]) w6 ∧ w6.cell? ⟨gm, 3, none⟩ = some (.slice aV nV cV) ∧ gm < w6.heap.size ∧ Arr (fun b => b < w.heap.size) w6 aV m.Vals) := fun v6 w6 ho hg => by
              have hg' : w5.grownBy w6 u3.ownBlock := ⟨hg.os, hg.tape, hg.output, hg.size, hg.block⟩
              have h6 := HV5.out.grown hg' ho
              refine ⟨h6, (Go.Bk.cell_grown (o := 3) hg' lz (fun e => ?_)).trans z3, Nat.lt_of_lt_of_le lz hg'.size, ?_⟩
              · have := (hvs.own.lt _ e).2; omega
              · refine (hVA.keep fun b hb => ?_).mono HDOM.out
                have hbw := HDOM.out b hb
                exact (h6.below.block b hbw).trans (hvs.below.block b hbw).symm
            have HBS : Hid (w.heap.size + 1 ≤ w5.heap.size) := hv5.size
            have HTK := Lib.hid (makeTo_succ hm)
            obtain ⟨va, vn, vc, hva⟩ : ∃ va vn vc, u3 = .slice va vn vc := by obtain ⟨a, c, h, -⟩ := hv5.own.arr; exact ⟨a, _, c, h⟩
            subst hva
            clear hm hcs hj hVA hvs hv5 hb5 hrow hnV hSb
            go_upto_region 10 with fail
            rw [← hw5]
            rw [← hgm]
            clear hw5 y0 y1 y2 y3 hbm hgm
            refine wp_region_noPanic ?_
            go_region_law (first
              | (refine step_append1s (α := Int) (S := fun _ => False) (B := w.heap.size + 1) (e := 3) (xs := makeTo x q) (y := m.Cell) (cs := [.int .i64 m.Cell]) (w0 := w5.drew) (e' := 3) rfl rfl Tryd.underlying58 Tryd.infoRep58 (by decide) (by decide) (by simp [Act.eval, Act.put]) (g := w5.heap.size) (by simp [Act.eval, Act.put]) rfl rfl HOD.out HCI.out (fun _ h => h.elim) (by have := HLN.out; unfold maxLen; omega) (by have := HLN.out; omega) (by have := HBS.out; exact this) ?_
                 intro v6 w6 hown6 hg6 hst6
                 obtain ⟨h6a, h6b, h6c, h6d⟩ := HNX.out v6 w6 hown6 hg6
                 obtain ⟨ua, un, uc, rfl⟩ : ∃ ua un uc, v6 = .slice ua un uc := (by obtain ⟨a, c, h, -⟩ := hown6.arr; exact ⟨a, _, c, h⟩)
                 have HV6 := Lib.hid h6a; have HA6 := Lib.hid h6d
                 clear h6a h6d hown6 hg6 hst6)
              | (refine step_of_list rfl fun Q' hQ => ?_
                 refine Tryd.wp_apps58 (S := fun _ => False) (S2 := fun b => b < w.heap.size) (B := w.heap.size + 1) (v := .slice ua un uc) (xs := makeTo x q ++ [m.Cell]) (ys := m.Vals) rfl rfl rfl rfl HNV.out HV6.out.own HA6.out Tryd.flat58 hVn (fun _ h => h.elim) (by have := HLN.out; simp; omega) HV6.out.size fun v7 w7 hown7 hg7 => ?_
                 have HV7 := Lib.hid (HV6.out.grown hg7 hown7)
                 refine (hQ _ _).2 ?_
                 clear hQ Q' hown7 hg7))
            all_goals refine NoPanic.normal ?_
            all_goals
              go_wp2_with fail
              go_roundw
            all_goals first
              | exact ⟨q + 1, by omega, by go_num, by rw [HTK.out]; exact HV7.out⟩
              | (simp [intOf]; omega)
        · as_aux_lemma =>
            obtain rfl : q = nM := by omega
            have hall : makeTo x q = exVals x := by rw [← HLM.out]; exact makeTo_all x
            rw [hall] at hvs
            obtain ⟨a, c, hv, h1, h2, h3⟩ := hvs.own.arr
            have HRET : Hid (RetL w (exVals x) (.returned u3) wr) := by
              rw [hv]
              exact RetL.mk hvs.below (h3.mono fun b hb => ⟨by have := hb.elim False.elim (·.1); omega, hb.elim False.elim (·.2)⟩) h1 h2
            clear hv h1 h2 h3 hall hvs hlt
            go_wp2_with fail
            go_ret
            exact HRET.out
/-- Marked: what is asked for. -/
def markL (bs : List Bool) (l : List Int) : List Bool := l.foldl (fun bs v => bs.set v.toNat true) bs
theorem markL_len (bs : List Bool) (l : List Int) : (markL bs l).length = bs.length := by
  unfold markL
  induction l generalizing bs with
  | nil => rfl
  | cons v l ih => rw [List.foldl_cons, ih, List.length_set]
theorem markL_take {bs : List Bool} {l : List Int} {k : Nat} {v : Int} (h : l[k]? = some v) : markL bs (l.take (k + 1)) = (markL bs (l.take k)).set v.toNat true := by
  unfold markL
  rw [List.take_add_one, h, List.foldl_append]
  rfl
theorem markL_at {bs : List Bool} {l : List Int} {j : Nat} {b : Bool} (hl : ∀ v ∈ l, 0 ≤ v) (h : bs[j]? = some b) : (markL bs l)[j]? = some (b || l.any fun u => decide (u = (j : Int))) := by
  unfold markL
  induction l generalizing bs b with
  | nil => simpa using h
  | cons v l ih =>
    rw [List.foldl_cons]
    have hv := hl v List.mem_cons_self
    have hj := (List.getElem?_eq_some_iff.1 h).1
    have h2 : (bs.set v.toNat true)[j]? = some (b || decide (v = (j : Int))) := by
      rw [List.getElem?_set]
      by_cases he : v = (j : Int)
      · subst he
        simp [hj]
      · rw [if_neg (by omega), h]
        simp [he]
    rw [ih (fun u hu => hl u (List.mem_cons_of_mem _ hu)) h2, List.any_cons, Bool.or_assoc]
def MarkPost (w : World) (ga : Nat) (bs : List Bool) (e : Ending) (w' : World) : Prop := e = .returned (.tuple #[]) ∧ Blk w' ga 4 (boolsV bs) ∧ Wr w.heap.size ga w w'
set_option maxRecDepth 100000 in
set_option maxHeartbeats 4000000 in
theorem mark_any {S : Nat → Prop} {w : World} {a : Option Addr} {n c : Nat} {l : List Int} {gb ga N : Nat} {bs : List Bool} (hl : Arr S w a l) (hS : ∀ b, S b → b < w.heap.size ∧ b ≠ ga) (hn : l.length = n) (hN : bs.length = N) (hN2 : N ≤ 1000) (hv : ∀ v ∈ l, 0 ≤ v ∧ v < N) (hbox : Row w gb 87 #[.slice (some ⟨ga, 0, none⟩) N N]) (hbs : Blk w ga 4 (boolsV bs)) (hne : gb ≠ ga) :
    Calls Tryd.prog 43 #[.slice a n c, .pointer (some ⟨gb, 0, none⟩)] w (MarkPost w ga (markL bs l)) := by
  have hn9 : n ≤ 9223372036854775807 := by rw [← hn]; have := hl.small; unfold maxLen at this; omega
  have HL := Lib.hid hl; have HS := Lib.hid hS; have HN := Lib.hid hn; have HNB := Lib.hid hN; have HV := Lib.hid hv; have HBX := Lib.hid hbox; have HBS := Lib.hid hbs
  clear hl hS hn hN hv hbox hbs
  go_enter Tryd.func43, Tryd.ntmps43
  go_wp2_with fail
  go_loopw [7] (fun i W => ∃ k : Nat, k ≤ n ∧ i = .int .i64 k ∧ Blk W ga 4 (boolsV (markL bs (l.take k))) ∧ Wr w.heap.size ga w W) (fun i _ => n - (intOf i).toNat)
  case atStart => exact ⟨0, Nat.zero_le _, rfl, HBS.out, Wr.refl _ _ _⟩
  case round =>
    obtain ⟨k, hk, rfl, hblk, hwr⟩ := hrel
    by_cases hlt : k < n
    · as_aux_lemma =>
        obtain ⟨v, hv⟩ : ∃ v, l[k]? = some v := ⟨_, List.getElem?_eq_getElem (by rw [HN.out]; exact hlt)⟩
        obtain ⟨hv0, hv1⟩ := HV.out v (List.mem_of_getElem? hv)
        obtain ⟨u, rfl⟩ : ∃ u : Nat, v = u := ⟨v.toNat, by omega⟩
        obtain ⟨b, off, rfl, hSb, hc, -⟩ := arr_int (hwr.arr HL.out HS.out) hv
        have hbl : b < wr.heap.size := Nat.lt_of_lt_of_le (HS.out b hSb).1 hwr.size
        have hrow := hwr.row HBX.out hne HBX.out.lt
        have c0 := hrow.cell (j := 0) rfl
        have l0 := hrow.lt
        have huN : u < (markL bs (l.take k)).length := by rw [markL_len, HNB.out]; omega
        obtain ⟨q, hq⟩ : ∃ q, (markL bs (l.take k))[u]? = some q := ⟨_, List.getElem?_eq_getElem huN⟩
        have m0 := hblk.cell (boolsV_get hq)
        have m1 := hblk.frozen u
        have m2 := hblk.lt
        have hui : (u : Int) < (N : Int) := by omega
        have HNX : Hid (Blk (wr.setCell ⟨ga, u, none⟩ (.bool true)) ga 4 (boolsV (markL bs (l.take (k + 1))))) := by
          show Blk _ _ _ _
          rw [markL_take hv, Int.toNat_natCast, ← boolsV_set]
          exact hblk.set u (.bool true)
        have HWX : Hid (Wr w.heap.size ga w (wr.setCell ⟨ga, u, none⟩ (.bool true))) := hwr.set (Or.inl rfl) _
        clear hblk hwr hv hSb hrow huN hq hv0
        go_wp2_with fail
        go_roundw
        case rel => exact ⟨k + 1, by omega, by go_num, HNX.out, HWX.out⟩
        case measure => simp [intOf]; omega
    · as_aux_lemma =>
        obtain rfl : k = n := by omega
        rw [show l.take k = l by rw [← HN.out]; exact List.take_length] at hblk
        have HB := Lib.hid hblk; have HW := Lib.hid hwr
        clear hblk hwr hlt
        go_wp2_with fail
        exact bodyPost_end (results_none rfl _ _ _) rfl ⟨rfl, HB.out, HW.out⟩
theorem names_eq (x : Api.TExit) (v : Int) : namesB x v = ((setVals x).any (fun u => decide (u = v)) || x.Makes.any fun m => decide (m.Cell = v) || m.Vals.any fun u => decide (u = v)) := by
  unfold namesB exVals
  rw [List.any_append]
  congr 1
  rw [List.any_flatMap]
  rfl
set_option maxRecDepth 100000 in
set_option maxHeartbeats 4000000 in
theorem rnames_any {S : Nat → Prop} {w : World} {X : Array Value} {x : Api.TExit} (hx : Rep.cells S w X.toList x) (hS : ∀ b, S b → b < w.heap.size) (v : Int) :
    Calls Tryd.prog 47 #[.agg X, .int .i64 v] w fun e w' => e = .returned (.bool (namesB x v)) ∧ Below w.heap.size w w' := by
  obtain ⟨a2, a3, nS, c2, nM, c3, hX⟩ := xin_of hx
  obtain ⟨w1, hw1⟩ : ∃ w1, w1 = w.alloc (.cells X 32) := ⟨_, rfl⟩
  have hb1 : Below w.heap.size w w1 := by rw [hw1]; exact cod.below_al2 _
  have rX := row_new w X 32
  rw [← hw1] at rX
  have hz1 : w1.heap.size = w.heap.size + 1 := by rw [hw1]; simp
  have HRX := Lib.hid rX; have HB1 := Lib.hid hb1
  have HC3 := Lib.hid hX.c3; have HLS := Lib.hid hX.lenS; have HLM := Lib.hid hX.lenM
  have HSE : Hid (∀ W, Below w.heap.size w W → Arr S W a2 x.Sets) := fun W hb => hX.sets.keep fun b hb' => hb.block b (hS b hb')
  have HMA : Hid (∀ W, Below w.heap.size w W → Arr S W a3 x.Makes) := fun W hb => hX.makes.keep fun b hb' => hb.block b (hS b hb')
  have HDOM := Lib.hid hS
  have hfS := hX.fewS; have hfM := hX.fewM
  have t2 := rX.cell hX.c2
  have lX := rX.lt
  obtain ⟨r, hr⟩ : ∃ r, r = namesB x v := ⟨_, rfl⟩
  rw [← hr]
  rw [names_eq] at hr
  have HR := Lib.hid hr
  clear hx hS hX hb1 rX hr
  go_enter Tryd.func47, Tryd.ntmps47
  go_upto_region 1 with fail
  rw [← hw1]
  clear hw1 hz1
  go_wp2_with fail
  clear t2 lX
  go_loopw [12] (fun i W => ∃ k : Nat, k ≤ nS ∧ i = .int .i64 k ∧ Row W w.heap.size 32 X ∧ Below w.heap.size w W ∧ ((setVals x).take k).any (fun u => decide (u = v)) = false) (fun i _ => nS - (intOf i).toNat)
  case atStart => exact ⟨0, Nat.zero_le _, rfl, HRX.out, HB1.out, rfl⟩
  case round =>
    clear HRX HB1
    obtain ⟨k, hk, rfl, hrow, hbr, hno⟩ := hrel
    by_cases hlt : k < nS
    · as_aux_lemma =>
        obtain ⟨s, hs⟩ : ∃ s, x.Sets[k]? = some s := ⟨_, List.getElem?_eq_getElem (by rw [HLS.out]; exact hlt)⟩
        obtain ⟨bs, os, rfl, hSb, y0, y1, i0, i1⟩ := api_TSet_elem (HSE.out wr hbr) hs
        have hbs : bs < wr.heap.size := Nat.lt_of_lt_of_le (HDOM.out bs hSb) hbr.size
        obtain ⟨w5, hw5⟩ : ∃ w5, w5 = wr.alloc (.cells #[.int .i64 s.Reg, .int .i64 s.Val] 98) := ⟨_, rfl⟩
        have hb5 : Below wr.heap.size wr w5 := by rw [hw5]; exact cod.below_al2 _
        have hrow5 := row_new wr #[.int .i64 s.Reg, .int .i64 s.Val] 98
        rw [← hw5] at hrow5
        have z1 := hrow5.cell (j := 1) rfl
        have lz := hrow5.lt
        have HRW := Lib.hid (hrow.keep (hb5.block _ hrow.lt))
        have HB5 : Hid (Below w.heap.size w w5) := hbr.trans (hb5.mono hbr.size)
        have HTK := Lib.hid (setVals_take hs)
        have HNO := Lib.hid hno
        have HSM := Lib.hid (List.mem_of_getElem? hs)
        clear hrow hbr hno hb5 hrow5 hs hSb
        go_upto_region 4 with fail
        rw [← hw5]
        clear hw5 y0 y1 hbs
        cases hc : (s.Val == v) with
        | false =>
          have HNX : Hid (((setVals x).take (k + 1)).any (fun u => decide (u = v)) = false) := by
            show _ = _
            rw [HTK.out, List.any_append, HNO.out]
            have : s.Val ≠ v := by simpa using hc
            simp [this]
          go_wp2_with fail
          go_roundw
          case rel => exact ⟨k + 1, by omega, by go_num, HRW.out, HB5.out, HNX.out⟩
          case measure => simp [intOf]; omega
        | true =>
          have HRR : Hid (r = true) := by
            show _ = _
            rw [HR.out]
            have : (setVals x).any (fun u => decide (u = v)) = true := by
              rw [List.any_eq_true]
              exact ⟨s.Val, List.mem_map_of_mem HSM.out, by simpa using hc⟩
            rw [this]
            rfl
          go_wp2_with fail
          go_ret
          exact ⟨by rw [HRR.out]; rfl, HB5.out⟩
    · have hkn : k = nS := by omega
      subst hkn
      have HNS : Hid ((setVals x).any (fun u => decide (u = v)) = false) := by
        show _ = _
        rw [List.take_of_length_le (by simp [setVals, HLS.out])] at hno
        exact hno
      have HRX := Lib.hid hrow; have HB1 := Lib.hid hbr
      have t3 := hrow.cell HC3.out
      have lX := hrow.lt
      clear hrow hbr hno hlt hk
      go_wp2_with fail
      clear t3 lX
      go_loopw [24] (fun i W => ∃ q : Nat, q ≤ nM ∧ i = .int .i64 q ∧ Below w.heap.size w W ∧ (x.Makes.take q).any (fun m => decide (m.Cell = v) || m.Vals.any fun u => decide (u = v)) = false) (fun i _ => nM - (intOf i).toNat)
      case atStart => exact ⟨0, Nat.zero_le _, rfl, HB1.out, rfl⟩
      case round =>
        clear HRX HB1
        obtain ⟨q, hq, rfl, hbr, hno⟩ := hrel
        by_cases hlt : q < nM
        · as_aux_lemma =>
            obtain ⟨m, hm⟩ : ∃ m, x.Makes[q]? = some m := ⟨_, List.getElem?_eq_getElem (by rw [HLM.out]; exact hlt)⟩
            obtain ⟨bm, om, cs, haM, hSb, hcs, hj⟩ := (HMA.out wr hbr).at hm
            obtain ⟨aV, cV, rfl, j0, j1, j2, hVc, hVn, hVA⟩ := api_TMake_cells_eq hcs
            have y0 := hj 0 (by show 0 < 4; omega); have y1 := hj 1 (by show 1 < 4; omega); have y2 := hj 2 (by show 2 < 4; omega); have y3 := hj 3 (by show 3 < 4; omega)
            simp only [show Rep.sz Api.TMake = 4 from rfl, List.getElem?_cons_zero, List.getElem?_cons_succ, Nat.add_zero] at y0 y1 y2 y3
            subst haM
            have hbm : bm < wr.heap.size := Nat.lt_of_lt_of_le (HDOM.out bm hSb) hbr.size
            obtain ⟨w5, hw5⟩ : ∃ w5, w5 = wr.alloc (.cells #[.int .i64 m.Cell, .int .i64 m.Kind, .int .i64 m.Num, .slice aV m.Vals.length cV] 100) := ⟨_, rfl⟩
            have hb5 : Below wr.heap.size wr w5 := by rw [hw5]; exact cod.below_al2 _
            have hrow := row_new wr #[.int .i64 m.Cell, .int .i64 m.Kind, .int .i64 m.Num, .slice aV m.Vals.length cV] 100
            rw [← hw5] at hrow
            have z0 := hrow.cell (j := 0) rfl
            have z3 := hrow.cell (j := 3) rfl
            have lz := hrow.lt
            have HB5 : Hid (Below w.heap.size w w5) := hbr.trans (hb5.mono hbr.size)
            have HMX : Hid (x.Makes.take (q + 1) = x.Makes.take q ++ [m]) := by show _ = _; rw [List.take_add_one, hm]; rfl
            have HMM := Lib.hid (List.mem_of_getElem? hm)
            have HNO := Lib.hid hno
            obtain ⟨hb, hhb⟩ : ∃ b, b = m.Vals.any fun u => decide (u = v) := ⟨_, rfl⟩
            have HHA : Hid (Calls Tryd.prog 32 #[.slice aV m.Vals.length cV, .int .i64 v] w5 fun e w' => e = .returned (.bool hb) ∧ Below w5.heap.size w5 w') := by
              refine (has_any (S := S) (hVA.keep fun b hb => hb5.block b (Nat.lt_of_lt_of_le (HDOM.out b hb) hbr.size))).mono fun e w' ⟨he, hq⟩ => ⟨?_, hq.below _⟩
              rw [he, hhb]
              congr 2
              rw [Bool.eq_iff_iff, decide_eq_true_eq, List.any_eq_true]
              constructor
              · intro h; exact ⟨v, h, by simp⟩
              · rintro ⟨u, h, e⟩; rw [← of_decide_eq_true e]; exact h
            have HHB := Lib.hid hhb
            clear hm hcs hj hVA hb5 hrow hno hbr hSb hhb
            go_upto_region 10 with fail
            rw [← hw5]
            clear hw5 y0 y1 y2 y3 hbm
            cases hc : (m.Cell == v) with
            | true =>
              have HRR : Hid (r = true) := by
                show _ = _
                rw [HR.out]
                have : (x.Makes.any fun m => decide (m.Cell = v) || m.Vals.any fun u => decide (u = v)) = true := by
                  rw [List.any_eq_true]
                  exact ⟨m, HMM.out, by rw [decide_eq_true (by simpa using hc)]; rfl⟩
                rw [this, Bool.or_true]
              go_wp2_with fail
              go_ret
              exact ⟨by rw [HRR.out]; rfl, HB5.out⟩
            | false =>
              have hcv : m.Cell ≠ v := by simpa using hc
              have HCV := Lib.hid hcv
              clear hcv
              cases hb with
              | true =>
                have HRR : Hid (r = true) := by
                  show _ = _
                  rw [HR.out]
                  have : (x.Makes.any fun m => decide (m.Cell = v) || m.Vals.any fun u => decide (u = v)) = true := by
                    rw [List.any_eq_true]
                    exact ⟨m, HMM.out, by rw [← HHB.out, Bool.or_true]⟩
                  rw [this, Bool.or_true]
                go_wp2_with (go_at_call 32; (with_reducible refine HHA.out.mono ?_); rintro e w6 ⟨rfl, hb6⟩; have HB6 := Lib.hid (HB5.out.trans (hb6.mono HB5.out.size)); clear hb6)
                go_ret
                exact ⟨by rw [HRR.out]; rfl, HB6.out⟩
              | false =>
                have HNX : Hid ((x.Makes.take (q + 1)).any (fun m => decide (m.Cell = v) || m.Vals.any fun u => decide (u = v)) = false) := by
                  show _ = _
                  rw [HMX.out, List.any_append, HNO.out, List.any_cons, List.any_nil, ← HHB.out]
                  simp [HCV.out]
                go_wp2_with (go_at_call 32; (with_reducible refine HHA.out.mono ?_); rintro e w6 ⟨rfl, hb6⟩; have HB6 := Lib.hid (HB5.out.trans (hb6.mono HB5.out.size)); clear hb6)
                go_roundw
                case rel => exact ⟨q + 1, by omega, by go_num, HB6.out, HNX.out⟩
                case measure => simp [intOf]; omega
        · as_aux_lemma =>
            obtain rfl : q = nM := by omega
            have HRR : Hid (r = false) := by
              show _ = _
              rw [List.take_of_length_le (by rw [HLM.out]; exact Nat.le_refl _)] at hno
              rw [HR.out, HNS.out, hno]
              rfl
            have HB := Lib.hid hbr
            clear hno hlt hbr
            go_wp2_with fail
            go_ret
            exact ⟨by rw [HRR.out]; rfl, HB.out⟩
end Go.Proofs.YtekofpigmggbbaaDoor.ded
