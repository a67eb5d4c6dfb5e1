/- PagesTells: Drop: walked. -/
import Derived.Test.YtjlnaiiajlahgaaPagS
import Derived.Test.YtjlnaiiajlahgaaPagO
set_option linter.unusedVariables false
set_option linter.unusedSimpArgs false
namespace Go.Proofs.Ytjlnaiiajlahgaa.pag
open Go.Bk Go.RowKit

def dropRes (s : Store) (root : Int) : Store := if thrs s [root] = 0 then countedOf (dropped s root.toNat) else ⟨[], [], []⟩
def DropPost (w : World) (s : Store) (root : Int) (e : Ending) (w' : World) : Prop :=
  ∃ aP aU aR nP nU nR cP cU cR, e = .returned (.tuple #[stV aP aU aR nP nU nR cP cU cR, .int .i64 (thrs s [root])]) ∧ StAt (Fresh w w') w' aP aU aR nP nU nR (dropRes s root) ∧ RowKit.Below w.heap.size w w'
def lRel (w : World) (g B R : Nat) (vP vU vR : Value) (hs : List Hd) (s : Store) (r : List Int) (v26 : Value) (w' : World) : Prop :=
  ∃ k : Nat, k ≤ 16 ∧ v26 = .int .i64 k ∧ OutSt w w' g B R vP vU vR hs ⟨dropP s r k, dropU s r k, s.roots⟩
theorem nil_at (S : Nat → Prop) (w : World) : StAt S w none none none 0 0 0 ⟨[], [], []⟩ := ⟨Arr.nil _ _ _, Arr.nil _ _ _, Arr.nil _ _ _, rfl, rfl, rfl⟩
set_option maxRecDepth 100000 in
set_option maxHeartbeats 4000000 in
theorem drop_any {S : Nat → Prop} {w : World} {aP aU aR : Option Addr} {nP nU nR cP cU cR : Nat} {s : Store} {root : Int} (h : StAt S w aP aU aR nP nU nR s) (hS : ∀ b, S b → b < w.heap.size) (hr : I64 root) (hnP : aP = none → cP = 0) (hnU : aU = none → cU = 0) :
    Calls Try.prog 8 #[stV aP aU aR nP nU nR cP cU cR, .int .i64 root] w (DropPost w s root) := by
  have HST : Hid (∀ w', RowKit.Below w.heap.size w w' → StAt S w' aP aU aR nP nU nR s) := fun w' hb => h.below hS hb
  have HL : Hid (s.pages.length = nP ∧ s.uses.length = nU ∧ s.roots.length = nR) := ⟨h.lenP, h.lenU, h.lenR⟩
  have e1 : (w.alloc (.cells #[.slice aP nP cP, .slice aU nU cU, .slice aR nR cR] 26)).heap.size = w.heap.size + 1 := by simp
  have e2 : ((w.alloc (.cells #[.slice aP nP cP, .slice aU nU cU, .slice aR nR cR] 26)).alloc (.cells #[.slice none 0 0, .slice none 0 0, .slice none 0 0] 26)).heap.size = w.heap.size + 2 := by simp
  have b1 : Blk (w.alloc (.cells #[.slice aP nP cP, .slice aU nU cU, .slice aR nR cR] 26)) w.heap.size 26 [.slice aP nP cP, .slice aU nU cU, .slice aR nR cR] := blk_new w _ _
  have b2 : Blk ((w.alloc (.cells #[.slice aP nP cP, .slice aU nU cU, .slice aR nR cR] 26)).alloc (.cells #[.slice none 0 0, .slice none 0 0, .slice none 0 0] 26)) (w.heap.size + 1) 26 [.slice none 0 0, .slice none 0 0, .slice none 0 0] := by
    have := blk_new (w.alloc (.cells #[.slice aP nP cP, .slice aU nU cU, .slice aR nR cR] 26)) [.slice none 0 0, .slice none 0 0, .slice none 0 0] 26
    rwa [e1] at this
  have b3 := blk_new ((w.alloc (.cells #[.slice aP nP cP, .slice aU nU cU, .slice aR nR cR] 26)).alloc (.cells #[.slice none 0 0, .slice none 0 0, .slice none 0 0] 26)) [.int .i64 root] 3
  rw [e2] at b3
  have hbel : RowKit.Below w.heap.size w (((w.alloc (.cells #[.slice aP nP cP, .slice aU nU cU, .slice aR nR cR] 26)).alloc (.cells #[.slice none 0 0, .slice none 0 0, .slice none 0 0] 26)).alloc (.cells #[.int .i64 root] 3)) := (((RowKit.Below.refl _ _).alloc (Nat.le_refl _) _).alloc (by simp) _).alloc (by rw [e2]; omega) _
  have HC : Hid (Calls Try.prog 36 #[stV aP aU aR nP nU nR cP cU cR, .slice (some ⟨w.heap.size + 2, 0, none⟩) 1 1] (((w.alloc (.cells #[.slice aP nP cP, .slice aU nU cU, .slice aR nR cR] 26)).alloc (.cells #[.slice none 0 0, .slice none 0 0, .slice none 0 0] 26)).alloc (.cells #[.int .i64 root] 3)) (fun e w1 => e = .returned (.int .i64 (thrs s [root])) ∧ Blk w1 w.heap.size 26 [.slice aP nP cP, .slice aU nU cU, .slice aR nR cR] ∧ Blk w1 (w.heap.size + 1) 26 [.slice none 0 0, .slice none 0 0, .slice none 0 0] ∧ RowKit.Below w.heap.size w w1)) :=
    (there_any (S2 := fun b => b = w.heap.size + 2) (h.below hS hbel) (fun b hb => Nat.lt_of_lt_of_le (hS b hb) hbel.size) rfl (arr_ints (zs := [root]) b3 (by simp [maxLen]) rfl (fun z hz => by simp at hz; subst hz; exact hr)) (fun b hb => by subst hb; exact b3.lt)).mono fun e w1 ⟨he, hb⟩ => by
      have c1 := blk_al (o := .cells #[.int .i64 root] 3) (blk_al (o := .cells #[.slice none 0 0, .slice none 0 0, .slice none 0 0] 26) b1)
      have c2 := blk_al (o := .cells #[.int .i64 root] 3) b2
      exact ⟨he, blk_call hb c1, blk_call hb c2, hbel.trans (hb.mono hbel.size)⟩
  obtain ⟨c, hc⟩ : ∃ c, c = thrs s [root] := ⟨_, rfl⟩
  have HC0 := Lib.hid hc
  rw [← hc] at HC
  by_cases h0 : c = 0
  case neg =>
    have d1 : (c == 0) = false := by simp [h0]
    have HF : Hid (dropRes s root = ⟨[], [], []⟩) := by show _ = _; unfold dropRes; rw [if_neg (by rw [← hc]; exact h0)]
    clear h hS hr hc h0 b1 b2 b3 hbel e1 e2
    go_enter Try.func8, Try.ntmps8
    go_wp2_with (go_at_call 36; (with_reducible refine HC.out.mono ?_); rintro e w1 ⟨rfl, -, hr1, hb1⟩; have HB := Lib.hid hb1; have HR := Lib.hid hr1; have g0 := hr1.cell (j := 0) rfl; have g1 := hr1.cell (j := 1) rfl; have g2 := hr1.cell (j := 2) rfl; have f0 := hr1.frozen 0; have f1 := hr1.frozen 1; have f2 := hr1.frozen 2; have hrl := hr1.lt; clear hb1 hr1)
    (try simp only [Exit.inBlock, Exit.then])
    refine bodyPost_ret (results_cell_tmp_row rfl _ _ _ _ _ _ _ rfl (((HR.out.set 0 (.slice none 0 0)).set 1 (.slice none 0 0)).set 2 (.slice none 0 0)) Try.underlying26 rfl rfl) rfl ?_
    have hgr : w1.grownBy (((w1.setCell ⟨w.heap.size + 1, 0, none⟩ (.slice none 0 0)).setCell ⟨w.heap.size + 1, 1, none⟩ (.slice none 0 0)).setCell ⟨w.heap.size + 1, 2, none⟩ (.slice none 0 0)) (some (w.heap.size + 1)) := grownBy_setCell (grownBy_setCell (grownBy_setCell (World.grownBy.refl _ _) _ _) _ _) _ _
    exact ⟨none, none, none, 0, 0, 0, 0, 0, 0, by rw [← HC0.out]; rfl, by rw [HF.out]; exact nil_at _ _, HB.out.grown hgr HB.out.size (fun r hr => by cases hr; omega)⟩
  case pos =>
  subst h0
  have hch : chk s = 0 ∧ ∀ x ∈ [root], bad s x = false := thrs_zero hc.symm
  obtain ⟨q, r, rfl, hT⟩ := there_of hch.1 (hch.2 root (by simp))
  have HT := Lib.hid hT
  have hP4 := hT.fewP; have hR4 := hT.fewR
  have hul := right_len hT.right
  rw [h.lenP, h.lenU] at hul
  subst hul
  rw [h.lenP] at hP4
  rw [h.lenR] at hR4
  have hqR : q < nR := by rw [← h.lenR]; exact (List.getElem?_eq_some_iff.1 hT.at').1
  have HOW : Hid (∀ W, RowKit.Below w.heap.size w W → Calls Try.prog 32 #[stV aP aU aR nU nU nR cP cU cR] W (OwnPost W s)) := fun W hW =>
    own_any (h.below hS hW) (fun b hb => Nat.lt_of_lt_of_le (hS b hb) hW.size) (by omega) (by omega) (by omega) hnP hnU (fun r hr => by have := (hT.right.1 r hr).1; omega)
  have HPK : Hid (∀ (W1 W4 : World) (vP vU vR : Value) (hs : List Hd), RowKit.Below w.heap.size w W1 → Blk W1 (w.heap.size + 1) 26 [.slice none 0 0, .slice none 0 0, .slice none 0 0] → Parts W4 W1.heap.size vP vU vR hs s → RowKit.Below W1.heap.size W1 W4 →
      ∃ pa pc ua uc gr rc la lc, vP = .slice pa nU pc ∧ vU = .slice ua nU uc ∧ vR = .slice (some ⟨gr, 0, none⟩) nR rc ∧ OutSt w (W4.alloc (.cells #[.slice pa nU pc, .slice ua nU uc, .slice (some ⟨gr, 0, none⟩) nR rc] 26)) W4.heap.size W1.heap.size (w.heap.size + 1) (.slice pa nU pc) (.slice ua nU uc) (.slice (some ⟨gr, 0, none⟩) nR rc) hs s ∧
        (W4.alloc (.cells #[.slice pa nU pc, .slice ua nU uc, .slice (some ⟨gr, 0, none⟩) nR rc] 26)).cell? ⟨gr, q, none⟩ = some (.slice la 16 lc) ∧ (∃ x, hs[q]? = some x ∧ x.val = .slice la 16 lc)) := fun W1 W4 vP vU vR hs hW hres hp hb4 => by
    obtain ⟨pa, pc, e1, -⟩ := hp.pages.arr
    obtain ⟨ua, uc, e2, -⟩ := hp.uses.arr
    obtain ⟨x, hx⟩ := hp.roots.get hT.at'
    obtain ⟨gr, rc, e3, -⟩ := hp.roots.at hx
    obtain ⟨la, lc, e4, -⟩ := (hp.roots.row q x r hx hT.at').arr
    rw [HL.out.1] at e1
    rw [HL.out.2.1] at e2
    rw [hp.roots.len, HL.out.2.2] at e3
    rw [hT.len] at e4
    subst e1 e2 e3
    have ho := out_new2 hW (by omega) hres hp hb4
    obtain ⟨gr', rc', e5, -, -, hcell, -⟩ := ho.parts.roots.at hx
    injection e5 with e5
    injection e5 with e5
    injection e5 with e5
    subst e5
    rw [e4] at hcell
    exact ⟨pa, pc, ua, uc, gr, rc, la, lc, rfl, rfl, rfl, ho, hcell, x, hx, e4⟩
  have HZ : Hid (dropRes s q = ⟨dropP s r 16, dropU s r 16, s.roots.set q []⟩) := by
    show _ = _
    unfold dropRes
    rw [if_pos hc.symm, show ((q : Int)).toNat = q by omega, (drop_all hT).1, (drop_all hT).2]
    rfl
  have HD0 : Hid (dropU s r 0 = s.uses ∧ dropP s r 0 = s.pages) := drop_zero hT.right r
  have hrl := hT.len
  have HRL := Lib.hid hrl
  have hat := hT.at'
  have HAT := Lib.hid hat
  clear h hS hr b1 b2 b3 hbel e1 e2 hc hch hT hrl hat HST hP4
  go_enter Try.func8, Try.ntmps8
  go_wp2_with (first
    | (go_at_call 36; (with_reducible refine HC.out.mono ?_); rintro e w1 ⟨rfl, hb1, hr1, hbl⟩; have HB := Lib.hid hbl; have HR := Lib.hid hr1; have x0 := hb1.cell (j := 0) rfl; have x1 := hb1.cell (j := 1) rfl; have x2 := hb1.cell (j := 2) rfl; clear hb1 hr1 hbl)
    | (go_at_call 32; (with_reducible refine (HOW.out w1 HB.out).mono ?_); rintro e w4 ⟨vP, vU, vR, hs, rfl, hp, hb4⟩; (obtain ⟨pa, pc, ua, uc, gr, rc, la, lc, rfl, rfl, rfl, ho, hcell, hxx⟩ := HPK.out w1 w4 vP vU vR hs HB.out HR.out hp hb4); have HO := Lib.hid ho; have HXX := Lib.hid hxx; clear hp hb4 ho hxx))
  obtain ⟨g, hg⟩ : ∃ g, g = w4.heap.size := ⟨_, rfl⟩
  obtain ⟨B, hB⟩ : ∃ B, B = w1.heap.size := ⟨_, rfl⟩
  rw [← hg, ← hB] at HO
  rw [← hg]
  obtain ⟨x, hx, hxv⟩ := HXX.out
  go_loopw [26] (fun v w' => lRel w g B (w.heap.size + 1) (.slice pa nU pc) (.slice ua nU uc) (.slice (some ⟨gr, 0, none⟩) nR rc) hs s r v w') (fun i _ => 16 - (intOf i).toNat)
  case atStart => exact ⟨0, Nat.zero_le _, rfl, by rw [HD0.out.1, HD0.out.2]; exact HO.out⟩
  case round =>
  clear HO HB HR HC HOW HPK HXX hg hB hcell x0 x1 x2
  obtain ⟨k, hk, rfl, hos⟩ := hrel
  have HOS := Lib.hid hos
  have y0 := hos.box.cell (j := 0) rfl; have y1 := hos.box.cell (j := 1) rfl; have y2 := hos.box.cell (j := 2) rfl
  have HX : Hid (hs[q]? = some x ∧ x.val = .slice la 16 lc) := ⟨hx, hxv⟩
  by_cases hkm : k < 16
  case neg =>
    have hk16 : k = 16 := by omega
    subst hk16
    have HROW : Hid (∃ rc', (Value.slice (some ⟨gr, 0, none⟩) nR rc) = .slice (some ⟨gr, 0, none⟩) nR rc') := ⟨_, rfl⟩
    obtain ⟨gr', rc', hv, -, -, hc2, hf2⟩ := hos.parts.roots.at hx
    injection hv with hv1 hv2 hv3
    injection hv1 with hv1
    injection hv1 with hv1
    subst hv1
    have hn := hos.nilR (k := q) rfl (by show q < s.roots.length; rw [HL.out.2.2]; exact hqR)
    have z0 := hn.box.cell (j := 0) rfl; have z1 := hn.box.cell (j := 1) rfl; have z2 := hn.box.cell (j := 2) rfl
    have g0 := hn.res.cell (j := 0) rfl; have g1 := hn.res.cell (j := 1) rfl; have g2 := hn.res.cell (j := 2) rfl
    have f0 := hn.res.frozen 0; have f1 := hn.res.frozen 1; have f2 := hn.res.frozen 2
    have hrl := hn.res.lt
    have HN := Lib.hid hn
    clear hn hos hv2 hv3 hx hxv
    go_wp2_with fail
    (try simp only [Exit.inBlock, Exit.then])
    obtain ⟨d1, d2, d3⟩ := HN.out.done
    refine bodyPost_ret (results_cell_tmp_row rfl _ _ _ _ _ _ _ rfl d1 Try.underlying26 rfl rfl) rfl ?_
    refine ⟨_, _, _, _, _, _, _, _, _, by rw [← HC0.out]; rfl, ?_, d3⟩
    rw [HZ.out]
    exact d2
  case pos =>
  obtain ⟨p, hp⟩ : ∃ p, r[k]? = some p := ⟨_, List.getElem?_eq_getElem (by rw [HRL.out]; exact hkm)⟩
  have hrow := hos.parts.roots.row q x r hx HAT.out
  rw [hxv] at hrow
  obtain ⟨gl, cl, hvl, -, hgl, hcl, -, hip⟩ := int_at hrow hp
  injection hvl with hvl1 hvl2 hvl3
  subst hvl1 hvl3
  have HP := Lib.hid hp
  by_cases hp0 : p < 0
  · have d1 : decide (p < 0) = true := decide_eq_true hp0
    have HE : Hid (dropU s r (k + 1) = dropU s r k ∧ dropP s r (k + 1) = dropP s r k) := drop_skip hp hp0
    clear hos hx hxv hrow hvl2 hp hp0
    go_wp2_with fail
    go_roundw
    case rel => exact ⟨k + 1, by omega, by go_num, by rw [HE.out.1, HE.out.2]; exact HOS.out⟩
    case measure => simp [intOf]; omega
  · obtain ⟨z, rfl⟩ : ∃ z : Nat, p = (z : Int) := ⟨p.toNat, by omega⟩
    have d1 : decide ((z : Int) < 0) = false := decide_eq_false hp0
    obtain ⟨hz, u, hu, hu1, hu2, hs1, hs2, hs3⟩ := drop_step HT.out hp
    rw [HL.out.1] at hz
    obtain ⟨gu, cu, hvu, -, hgu, hcu, hfu, -⟩ := int_at hos.parts.uses hu
    injection hvu with hvu1 hvu2 hvu3
    subst hvu1 hvu3
    have hn := hos.setU (k := z) (y := u - 1) rfl hu (by unfold I64; omega)
    have z0 := hn.box.cell (j := 0) rfl; have z1 := hn.box.cell (j := 1) rfl
    have HN := Lib.hid hn
    have HU := Lib.hid hs1
    by_cases hz0 : u - 1 = 0
    · have d2 : (u - 1 == 0) = true := by simp; omega
      have HE := Lib.hid (hs2 hz0)
      obtain ⟨yz, hyz⟩ : ∃ y, (dropP s r k)[z]? = some y := ⟨_, List.getElem?_eq_getElem (by rw [dropP_len, HL.out.1]; exact hz)⟩
      obtain ⟨gp, cp, hvp, -, hgp, ⟨t0, t1, t2, t3⟩, hfp⟩ := four_own_at hn.parts.pages hyz
      injection hvp with hvp1 hvp2 hvp3
      subst hvp1 hvp3
      have fp0 := hfp (z * 4); have fp1 := hfp (z * 4 + 1); have fp2 := hfp (z * 4 + 2); have fp3 := hfp (z * 4 + 3)
      have HQ : Hid (OutSt w (((((wr.setCell ⟨gu, z, none⟩ (.int .i64 (u - 1))).setCell ⟨gp, z * 4, none⟩ (.int .i64 0)).setCell ⟨gp, z * 4 + 1, none⟩ (.int .i64 0)).setCell ⟨gp, z * 4 + 2, none⟩ (.int .i64 0)).setCell ⟨gp, z * 4 + 3, none⟩ (.int .i64 0)) g B (w.heap.size + 1) (.slice (some ⟨gp, 0, none⟩) nU pc) (.slice (some ⟨gu, 0, none⟩) nU uc) (.slice (some ⟨gr, 0, none⟩) nR rc) hs ⟨dropP s r (k + 1), dropU s r (k + 1), s.roots⟩) := by
        show OutSt _ _ _ _ _ _ _ _ _ _
        rw [HE.out, HU.out]
        exact hn.setP (k := z) (y := zero4) rfl hyz (by show I64 0; unfold I64; omega) (by show I64 0; unfold I64; omega) (by show I64 0; unfold I64; omega) (by show I64 0; unfold I64; omega)
      clear hos hx hxv hrow hvl2 hp hp0 hn hs1 hs2 hs3 hu hvu2 hvp2 hyz hfp hz0 HU HE
      go_wp2_with fail
      go_roundw
      case rel => exact ⟨k + 1, by omega, by go_num, HQ.out⟩
      case measure => simp [intOf]; omega
    · have d2 : (u - 1 == 0) = false := by simp; omega
      have HE := Lib.hid (hs3 hz0)
      clear hos hx hxv hrow hvl2 hp hp0 hn hs1 hs2 hs3 hu hvu2 hz0
      go_wp2_with fail
      go_roundw
      case rel => exact ⟨k + 1, by omega, by go_num, by rw [HE.out, HU.out]; exact HN.out⟩
      case measure => simp [intOf]; omega
end Go.Proofs.Ytjlnaiiajlahgaa.pag
