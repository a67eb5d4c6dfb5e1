/- SchedNormals: the document's normal form, walked: layer by layer. -/
import Derived.Test.YtfdpannanpipdaaNormD
import Derived.Test.YtfdpannanpipdaaCloneI
import Derived.StillTailTactics
set_option linter.unusedVariables false
set_option linter.unusedSimpArgs false
namespace Go.Proofs.Ytfdpannanpipdaa.norm
open Go.Bk Go.RowKit

section
variable {ops : Array Oper} {Q : Exit → Act → World → Prop} {a : Act} {w : World} {rest : List Oper} {o : Oper}
theorem wp_apphd {s x : Operand} (hgd : o.guard = none) (ho : o.op = .call { callee := .builtin .append, args := #[s, x], argTypes := #[72, 72] })
    {B : Nat} {v u : Value} {xs : List Hd} {w0 : World} {e' : TypeId} (hs : a.eval s = v) {g : Nat} (hx : a.eval x = .slice (some ⟨g, 0, none⟩) 1 1) (hw : w = w0.alloc (.cells #[u] e')) (hg : g = w0.heap.size) (hown : Own (fun _ => False) w0 B 30 v xs) (hu : u.oneCell' = true)
    (h63 : xs.length + 1 ≤ 1000000000) (hbase : B ≤ w0.heap.size)
    (h : ∀ v' w', Own (fun _ => False) w' B 30 v' (xs ++ [⟨u, hu⟩]) → w0.grownBy w' v.ownBlock → Stay w0 v v' → wpList Try.prog ops Q rest (a.put o.dst v') w') : wpList Try.prog ops Q (o :: rest) a w :=
  wp_append1s (cs := [u]) (y := (⟨u, hu⟩ : Hd)) hgd ho Try.underlying72 (show _ = some (some _, Rep.sz Hd, _) from Try.info30) (by decide) (by decide) hs hx hw hg hown (hd_cells ⟨u, hu⟩) (fun _ h => h.elim) (by unfold maxLen; omega) (by omega) hbase h
end

theorem free_rev (D : Int → Int → Bool) (l : List Int) (x : Int) : free D l.reverse x = l.all fun y => !D y x := by unfold free; rw [List.all_reverse]
/-- The rounds of the document's form. -/
def layRel (w : World) (n : Nat) (D : Int → Int → Bool) (F : List (List Int)) (ok : Int → Bool) (left out : Value) (w' : World) : Prop :=
  ∃ (cur : List Int) (acc : List (List Int)) (hs : List Hd), cur.length + acc.length ≤ n ∧ (∀ x ∈ cur, ok x = true) ∧ acc ++ outs D cur.reverse = F ∧ Own (fun _ => False) w' w.heap.size 3 left cur ∧ RowsOwn w' w.heap.size 30 3 out hs acc ∧ Apart left out ∧ Below w.heap.size w w'
/-- One round: the free ones, and the rest. -/
def cutRel (w1 : World) (D : Int → Int → Bool) (cur : List Int) (n : Nat) (step rest i : Value) (w' : World) : Prop :=
  ∃ q : Nat, q ≤ n ∧ i = .int .i64 q ∧ Own (fun _ => False) w' w1.heap.size 3 step (stepOf D (cur.take q).reverse) ∧ Own (fun _ => False) w' w1.heap.size 3 rest (restOf D (cur.take q).reverse) ∧ Apart step rest ∧ Below w1.heap.size w1 w'
def freeRel (wp : World) (D : Int → Int → Bool) (cur : List Int) (x : Int) (q : Nat) (fr k : Value) (w' : World) : Prop :=
  ∃ j : Nat, j ≤ q ∧ k = .int .i64 j ∧ fr = .bool ((cur.take j).all fun y => !D y x) ∧ Quiet wp w'
theorem stepOf_len (D : Int → Int → Bool) (cur : List Int) (q : Nat) : (stepOf D (cur.take q).reverse).length ≤ q ∧ (restOf D (cur.take q).reverse).length ≤ q := by
  have := rest_len D (cur.take q).reverse
  simp at this
  omega
theorem stepOf_succ {D : Int → Int → Bool} {cur : List Int} {q : Nat} {x : Int} (h : cur[q]? = some x) (hf : ((cur.take q).all fun y => !D y x) = true) :
    stepOf D (cur.take (q + 1)).reverse = stepOf D (cur.take q).reverse ++ [x] ∧ restOf D (cur.take (q + 1)).reverse = restOf D (cur.take q).reverse := by
  rw [take_rev h, stepOf, restOf, if_pos (by rw [free_rev]; exact hf), if_pos (by rw [free_rev]; exact hf)]
  exact ⟨rfl, rfl⟩
theorem restOf_succ {D : Int → Int → Bool} {cur : List Int} {q : Nat} {x : Int} (h : cur[q]? = some x) (hf : ((cur.take q).all fun y => !D y x) = false) :
    stepOf D (cur.take (q + 1)).reverse = stepOf D (cur.take q).reverse ∧ restOf D (cur.take (q + 1)).reverse = restOf D (cur.take q).reverse ++ [x] := by
  rw [take_rev h, stepOf, restOf, if_neg (by rw [free_rev, hf]; simp), if_neg (by rw [free_rev, hf]; simp)]
  exact ⟨rfl, rfl⟩
theorem all_succ {p : Int → Bool} {l : List Int} {k : Nat} {x : Int} (h : l[k]? = some x) : (l.take (k + 1)).all p = ((l.take k).all p && p x) := by
  rw [List.take_add_one, h]; simp [List.all_append]
def srtRel (w1 wz : World) (v : Value) (st : List Int) (n : Nat) (i : Value) (w' : World) : Prop :=
  ∃ q : Nat, q ≤ n ∧ i = .int .i64 q ∧ Own (fun _ => False) w' w1.heap.size 3 v (srt (st.take q) ++ st.drop q) ∧ wz.grownBy w' v.ownBlock ∧ Below w1.heap.size w1 w'
def swpRel (w1 wz : World) (v : Value) (x : Int) (P tl : List Int) (n : Nat) (j : Value) (w' : World) : Prop :=
  ∃ k : Nat, k ≤ n ∧ j = .int .i64 k ∧ Own (fun _ => False) w' w1.heap.size 3 v (swp x P k ++ tl) ∧ wz.grownBy w' v.ownBlock ∧ Below w1.heap.size w1 w'

theorem own_set_at {w : World} {B g n cap : Nat} {e : TypeId} {xs : List Int} (h : Own (fun _ => False) w B e (.slice (some ⟨g, 0, none⟩) n cap) xs) {k : Nat} {x y : Int} (hk : xs[k]? = some x) (hy : I64 y) : Own (fun _ => False) (w.setCell ⟨g, k, none⟩ (.int .i64 y)) B e (.slice (some ⟨g, 0, none⟩) n cap) (xs.set k y) := by
  obtain ⟨g2, cap2, hv, -, -, -, -, -, -, hs⟩ := num.own_int_at h rfl hk
  cases hv
  exact hs y hy

set_option maxRecDepth 100000 in
set_option maxHeartbeats 2000000 in
theorem rnormal_ok {S S2 : Nat → Prop} {w : World} {a a2 : Option Addr} {c c2 n nd : Nat} {l : List Int} {dep : List (List Bool)} (hn : l.length = n) (hn2 : dep.length = nd) (h : Arr S w a l) (h2 : Arr S2 w a2 dep) (hS : ∀ b, S b → b < w.heap.size) (hS2 : ∀ b, S2 b → b < w.heap.size) (hnil : a = none → c = 0) (he : depErr l dep = 0) :
    Calls Try.prog 58 #[.slice a n c, .slice a2 nd c2] w fun e w' => ∃ v hs, e = .returned v ∧ RowsOwn w' w.heap.size 30 3 v hs (outs (depOf dep) l.reverse) ∧ Below w.heap.size w w' := by
  obtain ⟨hl200, hd12, hgood, hall⟩ := depErr_zero he
  rw [hn] at hl200
  rw [hn2] at hd12
  have HN := Lib.hid hn; have HN2 := Lib.hid hn2; have HG := Lib.hid hgood; have HAL := Lib.hid hall
  have HA : Hid (Arr S (w.alloc (.cells #[] 3)) a l) := h.keep (fun b hb => Below.heap_alloc _ _ _ (hS b hb))
  have HOZ : Hid (Own (fun _ => False) (w.alloc (.cells #[] 3)) w.heap.size 3 (.slice (some ⟨w.heap.size, 0, none⟩) 0 0) ([] : List Int)) := own_zero (Nat.le_refl _) box_zero
  have HNI := Lib.hid hnil
  clear hn hn2 he hgood hall h hnil
  obtain ⟨D, hD⟩ : ∃ D, depOf dep = D := ⟨_, rfl⟩
  rw [hD]
  have HD := Lib.hid hD
  clear hD
  go_enter Try.func58, Try.ntmps58
  go_wp2_with ((at_builtin; with_reducible refine Try.wp_apps30 rfl rfl rfl rfl (HN.out) (HOZ.out) (HA.out) Try.flat30 (HNI.out) (fun _ h => h.elim) (by (simp; omega)) (by first | omega | (simp; omega) | simp) fun v' w' hown' hg' => ?_); have hbw : Below w.heap.size w w' := box_below (n := 0) (c := 0) (by with_unfolding_all exact hg'); have HO := Lib.hid hown'; have HW := Lib.hid hbw; clear hown' hg' hbw)
  go_loopw [5, 6] (layRel w n D (outs D l.reverse) (inDep dep)) (fun left _ _ => num.lenOf left)
  case atStart => exact ⟨l, [], [], by rw [HN.out]; simp, List.all_eq_true.1 HAL.out, rfl, by simpa using HO.out, RowsOwn.nil _ _ _ _, Apart.nil_right _ _ _, HW.out⟩
  case round =>
    obtain ⟨cur, acc, hs, hca, hok, hF, hown, hro, hap, hbw⟩ := hrel
    obtain ⟨m, hm⟩ : ∃ m, cur.length = m := ⟨_, rfl⟩
    rw [hm] at hca
    obtain ⟨al, cl, rfl, hcl, hnl, hal⟩ := num.own_len hown hm
    have HM := Lib.hid hm; have HF := Lib.hid hF; have HOK := Lib.hid hok; have HOW := Lib.hid hown; have HRO := Lib.hid hro; have HAP := Lib.hid hap; have HBW := Lib.hid hbw
    have HAL2 := Lib.hid hal
    clear hm hF hok hown hro hap hbw hal HO HW HA HOZ
    by_cases h0 : m = 0
    · subst h0
      have HFA : Hid (acc = outs D l.reverse) := by
        show _ = _
        have := HF.out
        rw [List.eq_nil_of_length_eq_zero HM.out] at this
        simpa [outs_nil] using this
      obtain ⟨ao, co, rfl, -, -⟩ := HRO.out.form
      go_wp2_with fail
      go_ret
      exact ⟨_, _, rfl, by rw [← HFA.out]; exact HRO.out, HBW.out⟩
    · have hgt : decide (0 < m) = true := by simp; omega
      have hac : acc.length ≤ n := by omega
      obtain ⟨ao, co, rfl, -, -⟩ := HRO.out.form
      obtain ⟨na, hna⟩ : ∃ na, acc.length = na := ⟨_, rfl⟩
      rw [hna] at hca hac HRO HAP ⊢
      have HNA := Lib.hid hna
      clear hna
      obtain ⟨wo, rfl⟩ : ∃ wo : World, wo = wr := ⟨_, rfl⟩
      have hbs : w.heap.size ≤ wo.heap.size := HBW.out.size
      go_wp2_with fail
      go_loopw [7, 8, 9] (cutRel wo D cur m) (fun _ _ i _ => m - (intOf i).toNat)
      case atStart => exact ⟨0, Nat.zero_le _, rfl, Own.nil _ _ _ _, Own.nil _ _ _ _, Apart.nil_left _ _ _, Below.refl _ _⟩
      case round =>
        obtain ⟨q, hq, rfl, hst, hrs, hap, hbw⟩ := hrel
        have HST := Lib.hid hst; have HRS := Lib.hid hrs; have HAP2 := Lib.hid hap; have HBW2 := Lib.hid hbw
        have hWw : Below w.heap.size w wr := HBW.out.trans (hbw.mono hbs)
        have HWW := Lib.hid hWw
        have HAL3 : Hid (Arr (fun b => w.heap.size ≤ b ∧ b < wo.heap.size) wr al cur) := HAL2.out.keep (fun b hb => hbw.block b hb.2)
        obtain ⟨sl, hsl⟩ : ∃ k, (stepOf D (cur.take q).reverse).length = k := ⟨_, rfl⟩
        obtain ⟨rl, hrl⟩ : ∃ k, (restOf D (cur.take q).reverse).length = k := ⟨_, rfl⟩
        have hslq := stepOf_len D cur q
        rw [hsl, hrl] at hslq
        obtain ⟨ast, cst, rfl, -, -, -⟩ := num.own_len hst hsl
        obtain ⟨ar, cr, rfl, -, -, -⟩ := num.own_len hrs hrl
        have HSL := Lib.hid hsl; have HRL := Lib.hid hrl
        clear hst hrs hap hbw hWw hsl hrl
        by_cases hlt : q < m
        · obtain ⟨x, hx⟩ := get_lt HM.out hlt
          have HX := Lib.hid hx
          have HXO := Lib.hid (HOK.out x (List.mem_of_getElem? hx))
          clear hx
          obtain ⟨wp, rfl⟩ : ∃ wp : World, wp = wr := ⟨_, rfl⟩
          have hbp : wo.heap.size ≤ wp.heap.size := HBW2.out.size
          go_wp2_with fail
          go_loopw [10, 11] (freeRel wp D cur x q) (fun _ k _ => q - (intOf k).toNat)
          case atStart => exact ⟨0, Nat.zero_le _, rfl, rfl, Quiet.refl _⟩
          case round =>
            obtain ⟨k, hk, rfl, rfl, hqt⟩ := hrel
            obtain ⟨f, hf⟩ : ∃ f, ((cur.take k).all fun y => !D y x) = f := ⟨_, rfl⟩
            rw [hf]
            have HFR := Lib.hid hf; have HQT := Lib.hid hqt
            have hal := HAL3.out.keep (w' := wr) (fun b _ => hqt.heap b)
            obtain ⟨bx, ox, rfl, -, qx, hxi⟩ := arr_int hal HX.out
            have h2' := (h2.keep (w' := wp) (fun b hb => HWW.out.block b (hS2 b hb))).keep (w' := wr) (fun b _ => hqt.heap b)
            clear hf hqt
            by_cases hkq : k < q
            · obtain ⟨y, hy⟩ := get_lt HM.out (Nat.lt_trans hkq hlt)
              obtain ⟨by', oy, hey, -, qy, hyi⟩ := arr_int hal hy
              cases hey
              have hyo := HOK.out y (List.mem_of_getElem? hy)
              have hxo := HXO.out
              unfold inDep at hyo hxo
              rw [HN2.out] at hyo hxo
              obtain ⟨y, rfl⟩ : ∃ z : Nat, y = z := ⟨y.toNat, by simp at hyo; omega⟩
              obtain ⟨x, rfl⟩ : ∃ z : Nat, x = z := ⟨x.toNat, by simp at hxo; omega⟩
              have hyn : y < nd := by simp at hyo; exact hyo
              have hxn : x < nd := by simp at hxo; exact hxo
              obtain ⟨dr, hdr⟩ := get_lt HN2.out hyn
              have hdl : dr.length = nd := by have := (HG.out.2.1 y dr (by rw [HN2.out]; exact hyn) hdr).1; rw [this, HN2.out]
              obtain ⟨b2, off2, ad, cd, rfl, -, q7, -, -, hda⟩ := arr_list h2' hdr
              rw [hdl] at q7
              obtain ⟨bk, hbk⟩ := get_lt hdl hxn
              obtain ⟨b3, off3, rfl, -, q3⟩ := arr_bool hda hbk
              have hDk : D (y : Int) (x : Int) = bk := by
                rw [← HD.out]
                unfold depOf
                simp only [Int.toNat_natCast, List.getD_eq_getElem?_getD, hdr, hbk, Option.getD_some]
              have HAS := Lib.hid (all_succ (p := fun z => !D z (x : Int)) hy)
              rw [HFR.out, hDk] at HAS
              clear hal h2' hda hy hdr hdl hbk hyo hxo hDk
              cases bk with
              | true =>
                go_wp2_with fail
                go_quiet (fail)
                go_wp2_with fail
                go_roundw
                case rel => exact ⟨k + 1, by omega, by go_num, by rw [HAS.out]; simp, HQT.out.more _⟩
                case measure => simp [intOf]; omega
              | false =>
                go_wp2_with fail
                go_quiet (fail)
                go_wp2_with fail
                go_roundw
                case rel => exact ⟨k + 1, by omega, by go_num, by rw [HAS.out]; simp, HQT.out.more _⟩
                case measure => simp [intOf]; omega
            · obtain rfl : k = q := by omega
              clear hal h2'
              have HSTW := Lib.hid (HST.out.below (HQT.out.below _) (fun _ h => h.elim)); have HRSW := Lib.hid (HRS.out.below (HQT.out.below _) (fun _ h => h.elim))
              have hbr : wo.heap.size ≤ wr.heap.size := Nat.le_trans hbp (HQT.out.below wp.heap.size).size
              have HBW3 := Lib.hid (HBW2.out.trans (HQT.out.below _))
              cases f with
              | true =>
                have HSS := Lib.hid (stepOf_succ HX.out HFR.out)
                go_wp2_with ((at_builtin; with_reducible refine Try.wp_appd30 rfl rfl rfl rfl rfl (by first | rfl | simp) (HSTW.out) (cells_int hxi) (fun _ h => h.elim) (by (have := HSL.out; omega)) (by first | omega | (simp; omega)) fun v' w' hown' hg' hst' => ?_); have HN1 := Lib.hid (HRSW.out.apart hg' HAP2.out (fun _ h => h.elim)); have HN2' := Lib.hid hown'; have HN3 := Lib.hid hg'; have HN4 := Lib.hid hst'; clear hown' hg' hst')
                go_roundw
                case rel => exact ⟨k + 1, by omega, by go_num, by rw [HSS.out.1]; exact HN2'.out, by rw [HSS.out.2]; exact HN1.out, HAP2.out.moved HN4.out (fun j hj => (HRSW.out.lt j hj).2), HBW3.out.grown HN3.out hbr (fun j hj => (HSTW.out.lt j hj).1)⟩
                case measure => simp [intOf]; omega
              | false =>
                have HSS := Lib.hid (restOf_succ HX.out HFR.out)
                go_wp2_with ((at_builtin; with_reducible refine Try.wp_appd30 rfl rfl rfl rfl rfl (by first | rfl | simp) (HRSW.out) (cells_int hxi) (fun _ h => h.elim) (by (have := HRL.out; omega)) (by first | omega | (simp; omega)) fun v' w' hown' hg' hst' => ?_); have HN1 := Lib.hid (HSTW.out.apart hg' HAP2.out.symm (fun _ h => h.elim)); have HN2' := Lib.hid hown'; have HN3 := Lib.hid hg'; have HN4 := Lib.hid hst'; clear hown' hg' hst')
                go_roundw
                case rel => exact ⟨k + 1, by omega, by go_num, by rw [HSS.out.1]; exact HN1.out, by rw [HSS.out.2]; exact HN2'.out, (HAP2.out.symm.moved HN4.out (fun j hj => (HSTW.out.lt j hj).2)).symm, HBW3.out.grown HN3.out hbr (fun j hj => (HRSW.out.lt j hj).1)⟩
                case measure => simp [intOf]; omega
        · obtain rfl : q = m := by omega
          have HTA : Hid (cur.take q = cur) := by show _ = _; rw [← HM.out, List.take_length]
          obtain ⟨st, hst⟩ : ∃ st, stepOf D cur.reverse = st := ⟨_, rfl⟩
          rw [HTA.out, hst] at HST HSL
          rw [HTA.out] at HRS HRL
          have HSTE := Lib.hid hst
          obtain ⟨wz, rfl⟩ : ∃ wz : World, wz = wr := ⟨_, rfl⟩
          have hbz : wo.heap.size ≤ wz.heap.size := HBW2.out.size
          clear hst
          go_wp2_with fail
          go_loopw [12] (srtRel wo wz (.slice ast sl cst) st sl) (fun i _ => sl - (intOf i).toNat)
          case atStart => exact ⟨0, Nat.zero_le _, rfl, HST.out, World.grownBy.refl _ _, HBW2.out⟩
          case round =>
            obtain ⟨p, hp, rfl, hso, hgz, hbw⟩ := hrel
            have HSO := Lib.hid hso; have HGZ := Lib.hid hgz; have HBW3 := Lib.hid hbw
            clear hso hgz hbw
            by_cases hps : p < sl
            · obtain ⟨x, hx⟩ := get_lt HSL.out hps
              obtain ⟨P, hP⟩ : ∃ P, srt (st.take p) = P := ⟨_, rfl⟩
              have HPL : Hid (P.length = p) := by show _ = _; rw [← hP, srt_len, List.length_take, HSL.out]; omega
              have HPS : Hid (Srt P) := hP ▸ srt_srt _
              have HS0 : Hid (srt (st.take p) ++ st.drop p = swp x P 0 ++ st.drop (p + 1)) := by
                show _ = _
                rw [hP, swp_zero, List.drop_eq_getElem_cons (by rw [HSL.out]; exact hps), List.append_assoc]
                congr 1
                rw [(List.getElem?_eq_some_iff.1 hx).2]; rfl
              have HS1 : Hid (srt (st.take (p + 1)) ++ st.drop (p + 1) = swp x P p ++ st.drop (p + 1)) := by
                show _ = _
                rw [List.take_add_one, hx, Option.toList_some, srt_snoc, hP, ← swp_end, HPL.out]
              obtain ⟨tl, htl⟩ : ∃ tl, st.drop (p + 1) = tl := ⟨_, rfl⟩
              rw [htl] at HS0 HS1
              rw [HS0.out] at HSO
              have HTL : Hid (p + 1 + tl.length = sl) := by show _ = _; rw [← htl, List.length_drop, HSL.out]; omega
              have HS1' : Hid (srt (st.take (p + 1)) ++ st.drop (p + 1) = swp x P p ++ tl) := by show _ = _; rw [htl]; exact HS1.out
              clear hx hP htl HS0 HS1
              go_wp2_with fail
              go_loopw [13] (swpRel wo wz (.slice ast sl cst) x P tl p) (fun i _ => p - (intOf i).toNat)
              case atStart => exact ⟨0, Nat.zero_le _, rfl, HSO.out, HGZ.out, HBW3.out⟩
              case round =>
                obtain ⟨k, hk, rfl, hso, hgz, hbw⟩ := hrel
                have HGZ2 := Lib.hid hgz; have HBW4 := Lib.hid hbw
                by_cases hkp : k < p
                · obtain ⟨y, hy⟩ := get_lt HPL.out hkp
                  obtain ⟨cx, hcx⟩ : ∃ cx, carry x P k = cx := ⟨_, rfl⟩
                  have hnx := swp_next (x := x) HPS.out hy
                  rw [HPL.out, hcx] at hnx
                  have hsl := swp_len (x := x) (P := P) (k := k) (by rw [HPL.out]; omega)
                  rw [HPL.out] at hsl
                  have hlen : (swp x P k ++ tl).length = sl := by rw [List.length_append, hsl]; exact HTL.out
                  have ek : (swp x P k ++ tl)[k]? = some y := by rw [List.getElem?_append_left (by rw [hsl]; omega), swp_at (by rw [HPL.out]; exact hkp), hy]
                  have ep : (swp x P k ++ tl)[p]? = some cx := by rw [List.getElem?_append_left (by rw [hsl]; omega)]; have := swp_last (x := x) (P := P) (k := k) (by rw [HPL.out]; omega); rw [HPL.out, hcx] at this; exact this
                  obtain ⟨g, cap, hv, hBg, hgs, -, q1, f1, hyi, -⟩ := num.own_int_at hso hlen ek
                  cases hv
                  obtain ⟨g2, cap2, hv2, -, -, -, q2, f2, hci, -⟩ := num.own_int_at hso hlen ep
                  cases hv2
                  have HSO2 := Lib.hid hso
                  have HNX := Lib.hid hnx; have HSLK := Lib.hid hsl; have HLEN := Lib.hid hlen; have HEK := Lib.hid ek; have HEP := Lib.hid ep
                  clear hso hgz hbw hy hcx hnx hsl hlen ek ep
                  by_cases hlt : cx < y
                  · have hdl : decide (cx < y) = true := by simp [hlt]
                    go_wp2_with fail
                    go_quiet (fail)
                    go_wp2_with fail
                    obtain ⟨wv, hwv⟩ : ∃ wv, wr.drewN nq = wv := ⟨_, rfl⟩
                    have hqv : Quiet wr wv := ⟨nq, hwv.symm⟩
                    have q1' := (hqv.cell ⟨g, k, none⟩).trans q1
                    have q2' := (hqv.cell ⟨g, p, none⟩).trans q2
                    have f1' : wv.frozen? ⟨g, k, none⟩ = false := (World.frozen?_of_block (w := wr) (hqv.heap g)).trans f1
                    have f2' : wv.frozen? ⟨g, p, none⟩ = false := (World.frozen?_of_block (w := wr) (hqv.heap g)).trans f2
                    rw [hwv]
                    have HQV := Lib.hid hqv
                    clear hwv hqv q1 q2 f1 f2
                    have HOV := Lib.hid (HSO2.out.below (HQV.out.below _) (fun _ h => h.elim))
                    have HSK : Hid (((swp x P k ++ tl).set p y).set k cx = swp x P (k + 1) ++ tl) := by
                      show _ = _
                      rw [HNX.out, if_pos hlt, List.set_append_left _ _ (by rw [HSLK.out]; omega), List.set_append_left _ _ (by rw [List.length_set, HSLK.out]; omega)]
                    have HOK2 : Hid (Own (fun _ => False) (((wv.setCell ⟨g, p, none⟩ (.int .i64 y)).setCell ⟨g, k, none⟩ (.int .i64 cx)).drew) wo.heap.size 3 (.slice (some ⟨g, 0, none⟩) sl cst) (swp x P (k + 1) ++ tl)) := by
                      have h1 := own_set_at HOV.out HEP.out hyi
                      have h2 := own_set_at h1 (k := k) (x := y) (by rw [List.getElem?_set_ne (by omega)]; exact HEK.out) hci
                      rw [HSK.out] at h2
                      exact h2.below (Below.refl _ _).drew (fun _ h => h.elim)
                    have HGV : Hid (wz.grownBy wv (some g)) := ⟨(HQV.out.below 0).os.trans HGZ2.out.os, (HQV.out.below 0).tape.trans HGZ2.out.tape, (HQV.out.below 0).output.trans HGZ2.out.output, Nat.le_trans HGZ2.out.size (HQV.out.below 0).size, fun j hj hne => (HQV.out.heap j).trans (HGZ2.out.block j hj hne)⟩
                    have HBV := Lib.hid (HBW4.out.trans (HQV.out.below _))
                    go_region
                    go_wp2_with fail
                    go_roundw
                    case rel => exact ⟨k + 1, by omega, by go_num, HOK2.out, grownBy_drew (grownBy_setCell (grownBy_setCell HGV.out _ _) _ _), ((HBV.out.setCell (p := ⟨g, p, none⟩) hBg _).setCell (p := ⟨g, k, none⟩) hBg _).drew⟩
                    case measure => simp [intOf]; omega
                  · have hdl : decide (cx < y) = false := by simpa using hlt
                    go_wp2_with fail
                    go_quiet (fail)
                    go_wp2_with fail
                    have hqv : Quiet wr (wr.drewN nq) := ⟨nq, rfl⟩
                    have hnx2 := HNX.out
                    rw [if_neg (Int.not_lt.2 hlt)] at hnx2
                    go_roundw
                    case rel => exact ⟨k + 1, by omega, by go_num, by rw [hnx2]; exact HSO2.out.below (hqv.below _) (fun _ h => h.elim), ⟨(hqv.below 0).os.trans HGZ2.out.os, (hqv.below 0).tape.trans HGZ2.out.tape, (hqv.below 0).output.trans HGZ2.out.output, Nat.le_trans HGZ2.out.size (hqv.below 0).size, fun j hj hne => (hqv.heap j).trans (HGZ2.out.block j hj hne)⟩, HBW4.out.trans (hqv.below _)⟩
                    case measure => simp [intOf]; omega
                · obtain rfl : k = p := by omega
                  have HSO2 := Lib.hid hso
                  clear hso hgz hbw
                  go_wp2_with fail
                  go_roundw
                  case rel => exact ⟨k + 1, by omega, by go_num, by rw [HS1'.out]; exact HSO2.out, HGZ2.out, HBW4.out⟩
                  case measure => simp [intOf]; omega
            · obtain rfl : p = sl := by omega
              have HSO2 : Hid (Own (fun _ => False) wr wo.heap.size 3 (.slice ast p cst) (srt st)) := by
                have := HSO.out
                rw [← HSL.out, List.take_length, List.drop_length, List.append_nil] at this
                rw [← HSL.out]
                exact this
              have HRO2 := Lib.hid (HRO.out.below HBW3.out)
              have HRS2 := Lib.hid (HRS.out.apart HGZ.out HAP2.out (fun _ h => h.elim))
              have HXV : Hid (Apart (.slice ast p cst) (.slice ao na co)) := fun j hj he => by
                have h1 := (HSO2.out.lt j hj).1
                have h2 := (HRO.out.out.lt j he).2
                omega
              have HXR : Hid (Apart (.slice ao na co) (.slice ar rl cr)) := fun j hj he => by
                have h1 := (HRS2.out.lt j he).1
                have h2 := (HRO.out.out.lt j hj).2
                omega
              have HXS : Hid (∀ (j : Nat) (y : Hd), hs[j]? = some y → Apart (.slice ast p cst) y.val) := fun j y hy i hi he => by
                have h1 := (HSO2.out.lt i hi).1
                obtain ⟨ly, hly⟩ := HRO.out.getL hy
                have h2 := ((HRO.out.row j y ly hy hly).lt i he).2
                omega
              have HNX : Hid (outs D cur.reverse = srt st :: outs D (restOf D cur.reverse).reverse) := by
                show _ = _
                rw [outs_next D (fun h => by have := HM.out; rw [List.reverse_eq_nil_iff.1 h] at this; exact h0 this.symm), HSTE.out]
              have HLE : Hid (p + rl = q ∧ 1 ≤ p) := by
                have h1 := rest_len D cur.reverse
                have h2 := step_pos D (r := cur.reverse) (fun h => by have := HM.out; rw [List.reverse_eq_nil_iff.1 h] at this; exact h0 this.symm)
                rw [HSTE.out, HSL.out] at h1 h2
                rw [HRL.out, List.length_reverse, HM.out] at h1
                exact ⟨h1, h2⟩
              have HRM : Hid (∀ x ∈ restOf D cur.reverse, inDep dep x = true) := fun x hx => HOK.out x (by
                have : ∀ r : List Int, x ∈ restOf D r → x ∈ r := by
                  intro r
                  induction r with
                  | nil => intro h; exact h
                  | cons z r ih =>
                    intro h
                    rw [restOf] at h
                    split at h
                    · exact List.mem_cons_of_mem _ (ih h)
                    · rcases List.mem_append.1 h with h | h
                      · exact List.mem_cons_of_mem _ (ih h)
                      · rw [List.mem_singleton.1 h]; exact List.mem_cons_self ..
                exact List.mem_reverse.1 (this _ hx))
              have hbr : w.heap.size ≤ wr.heap.size := Nat.le_trans hbs HBW3.out.size
              have HHL : Hid (hs.length = na) := by show _ = _; rw [HRO.out.len, HNA.out]
              have HBWW := Lib.hid (HBW.out.trans (HBW3.out.mono hbs))
              go_wp2_with (at_builtin; (with_reducible refine wp_apphd rfl rfl rfl rfl (by first | rfl | simp) rfl HRO2.out.out rfl (by have := HHL.out; omega) hbr fun v' w' hown' hg' hst' => ?_); have HN1 := Lib.hid hown'; have HN3 := Lib.hid hg'; have HN4 := Lib.hid hst'; clear hown' hg' hst')
              go_roundw
              case rel => exact ⟨restOf D cur.reverse, acc ++ [srt st], _, by have := HLE.out; rw [HRL.out, List.length_append, HNA.out, List.length_singleton]; omega, HRM.out, by rw [List.append_assoc, List.singleton_append, ← HNX.out]; exact HF.out, Own.base (HRS2.out.apart HN3.out HXR.out (fun _ h => h.elim)) hbs, HRO2.out.push HN1.out HN3.out HN4.out (Own.base HSO2.out hbs) HXV.out HXS.out, (HXR.out.moved HN4.out (fun j hj => (HRS2.out.lt j hj).2)).symm, HBWW.out.grown HN3.out hbr (fun j hj => (HRO2.out.out.lt j hj).1)⟩
              case measure => have := HLE.out; simp [num.lenOf]; omega
end Go.Proofs.Ytfdpannanpipdaa.norm
