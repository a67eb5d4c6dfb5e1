/- PagesTells: the document's PagesDrop: walked. -/
import Derived.Test.YtjlnaiiajlahgaaPagK
import Derived.Test.YtjlnaiiajlahgaaRowsOwn
import Derived.Test.YtjlnaiiajlahgaaCloneI
set_option linter.unusedVariables false
set_option linter.unusedSimpArgs false
namespace Go.Proofs.Ytjlnaiiajlahgaa.pag
open Go.Bk Go.RowKit

section
variable {ops : Array Oper} {Q : Exit → Act → World → Prop} {a : Act} {w : World} {rest : List Oper} {o : Oper}
theorem wp_appHd {s x : Operand} (hgd : o.guard = none) (ho : o.op = .call { callee := .builtin .append, args := #[s, x], argTypes := #[24, 24] })
    {B : Nat} {v u : Value} {xs : List Hd} {w0 : World} {e' : TypeId} (hs : a.eval s = v) {g : Nat} (hx : a.eval x = .slice (some ⟨g, 0, none⟩) 1 1) (hw : w = w0.alloc (.cells #[u] e')) (hg : g = w0.heap.size) (hown : Own (fun _ => False) w0 B 23 v xs) (hu : u.oneCell' = true)
    (h63 : xs.length + 1 ≤ 1000000000) (hbase : B ≤ w0.heap.size)
    (h : ∀ v' w', Own (fun _ => False) w' B 23 v' (xs ++ [(⟨u, hu⟩ : Hd)]) → w0.grownBy w' v.ownBlock → Stay w0 v v' → wpList Try.prog ops Q rest (a.put o.dst v') w') : wpList Try.prog ops Q (o :: rest) a w :=
  wp_append1s (cs := [u]) (y := (⟨u, hu⟩ : Hd)) hgd ho Try.underlying24 (show _ = some (some _, Rep.sz Hd, _) from Try.info23) (by decide) (by decide) hs hx hw hg hown (hd_cells ⟨u, hu⟩) (fun _ h => h.elim) (by unfold maxLen; omega) (by omega) hbase h
end
theorem StAt.ints {S : Nat → Prop} {w : World} {aP aU aR : Option Addr} {nP nU nR : Nat} {s : Store} (h : StAt S w aP aU aR nP nU nR s) : ∀ x ∈ s.pages, I64 x.1 ∧ I64 x.2.1 ∧ I64 x.2.2.1 ∧ I64 x.2.2.2 := fun x hx => by
  obtain ⟨i, hi⟩ := List.getElem?_of_mem hx
  obtain ⟨b, o, -, -, -, -, -, -, h1, h2, h3, h4⟩ := int4_elem h.pages hi
  exact ⟨h1, h2, h3, h4⟩
/-- A store of the call's own comes back. -/
def StoPost (w : World) (s : Store) (e : Ending) (w' : World) : Prop :=
  ∃ aP aU aR nP nU nR cP cU cR, e = .returned (stV aP aU aR nP nU nR cP cU cR) ∧ StAt (Fresh w w') w' aP aU aR nP nU nR s ∧ RowKit.Below w.heap.size w w'
def dropped (s : Store) (q : Nat) : Store := ⟨s.pages, [], s.roots.set q []⟩
def qRel (w : World) (s : Store) (q nR : Nat) (bx : List Value) (v5 v6 : Value) (w' : World) : Prop :=
  ∃ i : Nat, i ≤ nR ∧ v6 = .int .i64 i ∧ (∃ hs, RowsOwn w' (w.heap.size + 2) 23 3 v5 hs ((s.roots.set q []).take i)) ∧ Blk w' w.heap.size 26 bx ∧ Blk w' (w.heap.size + 1) 26 [.slice none 0 0, .slice none 0 0, .slice none 0 0] ∧ RowKit.Below w.heap.size w w' ∧ w.heap.size + 2 ≤ w'.heap.size
set_option maxRecDepth 100000 in
set_option maxHeartbeats 4000000 in
theorem pdrop_any {S : Nat → Prop} {w : World} {aP aU aR : Option Addr} {nP nU nR cP cU cR : Nat} {s : Store} {q : Nat} {r : List Int} (h : StAt S w aP aU aR nP nU nR s) (hS : ∀ b, S b → b < w.heap.size) (hT : There s q r) :
    Calls Try.prog 14 #[stV aP aU aR nP nU nR cP cU cR, .int .i64 q] w (StoPost w (countedOf (dropped s q))) := by
  have HST : Hid (∀ w', RowKit.Below w.heap.size w w' → StAt S w' aP aU aR nP nU nR s) := fun w' hb => h.below hS hb
  have HL : Hid (s.pages.length = nP ∧ s.roots.length = nR) := ⟨h.lenP, h.lenR⟩
  have HSS : Hid (∀ b, S b → b < w.heap.size) := hS
  have HT := Lib.hid hT
  have hR : nR ≤ 40 := by rw [← h.lenR]; exact hT.fewR
  have hP : nP ≤ 400 := by rw [← h.lenP]; exact hT.fewP
  have HIN := Lib.hid h.ints
  have HSH : Hid (∀ r ∈ s.roots, r.length ≤ 16) := fun r hr => by have := (hT.right.1 r hr).1; omega
  clear h hS hT
  have HK0 : Hid (Blk ((w.alloc (.cells #[.slice aP nP cP, .slice aU nU cU, .slice aR nR cR] 26)).alloc (.cells #[.slice none 0 0, .slice none 0 0, .slice none 0 0] 26)) w.heap.size 26 [.slice aP nP cP, .slice aU nU cU, .slice aR nR cR] ∧ Blk ((w.alloc (.cells #[.slice aP nP cP, .slice aU nU cU, .slice aR nR cR] 26)).alloc (.cells #[.slice none 0 0, .slice none 0 0, .slice none 0 0] 26)) (w.heap.size + 1) 26 [.slice none 0 0, .slice none 0 0, .slice none 0 0] ∧ RowKit.Below w.heap.size w ((w.alloc (.cells #[.slice aP nP cP, .slice aU nU cU, .slice aR nR cR] 26)).alloc (.cells #[.slice none 0 0, .slice none 0 0, .slice none 0 0] 26))) := by
    have e1 : (w.alloc (.cells #[.slice aP nP cP, .slice aU nU cU, .slice aR nR cR] 26)).heap.size = w.heap.size + 1 := by simp
    have b2 := blk_new (w.alloc (.cells #[.slice aP nP cP, .slice aU nU cU, .slice aR nR cR] 26)) [.slice none 0 0, .slice none 0 0, .slice none 0 0] 26
    have b1 := blk_new w [.slice aP nP cP, .slice aU nU cU, .slice aR nR cR] 26
    rw [e1] at b2
    exact ⟨b1.keep (Below.heap_alloc _ _ _ (by simp)), b2, ((RowKit.Below.refl _ _).alloc (Nat.le_refl _) _).alloc (by simp) _⟩
  have HZ0 : Hid (w.heap.size + 2 ≤ ((w.alloc (.cells #[.slice aP nP cP, .slice aU nU cU, .slice aR nR cR] 26)).alloc (.cells #[.slice none 0 0, .slice none 0 0, .slice none 0 0] 26)).heap.size) := by show _ ≤ _; simp
  go_enter Try.func14, Try.ntmps14
  go_wp2_with fail
  generalize (w.alloc (.cells #[.slice aP nP cP, .slice aU nU cU, .slice aR nR cR] 26)).alloc (.cells #[.slice none 0 0, .slice none 0 0, .slice none 0 0] 26) = w1 at *
  go_loopw [5, 6] (fun v5 v6 w' => qRel w s q nR [.slice aP nP cP, .slice aU nU cU, .slice aR nR cR] v5 v6 w') (fun _ i _ => nR - (intOf i).toNat)
  case atStart => exact ⟨0, Nat.zero_le _, rfl, ⟨[], RowsOwn.nil _ _ _ _⟩, HK0.out.1, HK0.out.2.1, HK0.out.2.2, HZ0.out⟩
  case round =>
  clear HK0 HZ0
  obtain ⟨i, hi, rfl, ⟨hs, hro⟩, hbx, hrs, hbel, hsz⟩ := hrel
  obtain ⟨ra, rc, hre, -, -⟩ := hro.form
  have hti : ((s.roots.set q []).take i).length = i := by rw [List.length_take, List.length_set, HL.out.2]; omega
  rw [hti] at hre
  subst hre
  have HRO := Lib.hid hro; have HBX := Lib.hid hbx; have HRS := Lib.hid hrs; have HB := Lib.hid hbel
  have HHL : Hid (hs.length = i) := by show _ = _; rw [hro.len, hti]
  have x0 := hbx.cell (j := 0) rfl; have x2 := hbx.cell (j := 2) rfl
  by_cases hin : i < nR
  case neg =>
    have hin2 : i = nR := by omega
    subst hin2
    have HSA : Hid (∀ w3, RowKit.Below wr.heap.size wr w3 → StAt (fun b => S b ∨ (w.heap.size + 2 ≤ b ∧ b < wr.heap.size)) w3 aP none ra nP 0 i (dropped s q)) := fun w3 hb => by
      have h0 := HST.out w3 (hbel.trans (hb.mono hbel.size))
      have h3 := hro.below hb
      rw [List.take_of_length_le (by rw [List.length_set, HL.out.2]; omega)] at h3
      have h4 := hro.arr
      rw [List.take_of_length_le (by rw [List.length_set, HL.out.2]; omega)] at h4
      exact ⟨h0.pages.mono fun b hb' => .inl hb', Arr.nil _ _ _, (h4.mono fun b hb' => .inr hb').keep (fun b hb' => hb.block b (by
        rcases hb' with h | h
        · exact Nat.lt_of_lt_of_le (HSS.out b h) hbel.size
        · exact h.2)), HL.out.1, rfl, by show (s.roots.set q []).length = i; rw [List.length_set, HL.out.2]⟩
    have HSM : Hid (∀ b, (S b ∨ (w.heap.size + 2 ≤ b ∧ b < wr.heap.size)) → b < wr.heap.size) := fun b hb => by
      rcases hb with h | h
      · exact Nat.lt_of_lt_of_le (HSS.out b h) hbel.size
      · exact h.2
    have HSHD : Hid (Short (dropped s q)) := ⟨by show (s.roots.set q []).length ≤ 1000; rw [List.length_set, HL.out.2]; omega, fun r hr => by
      rcases List.mem_or_eq_of_mem_set hr with h | h
      · have := HSH.out r h; omega
      · subst h; exact Nat.zero_le _⟩
    have HCN : Hid (Calls Try.prog 39 #[stV aP none ra nP 0 i cP 0 rc] wr (CntPost wr (dropped s q) ra i rc)) := counted_any (HSA.out wr (RowKit.Below.refl _ _)) HSM.out HSHD.out (by omega) HIN.out
    have HFP : Hid (∀ (W : World) (v : Value), Go.Bk.Own (fun _ => False) W wr.heap.size 64 v (countedOf (dropped s q)).pages → ∃ a c, v = .slice a nP c) := fun W v h => by
      obtain ⟨a, c, e, -⟩ := h.arr
      exact ⟨a, c, by rw [e]; show Value.slice a (keptTo (dropped s q) s.pages.length).length c = _; rw [keptTo_len, HL.out.1]⟩
    have HFU : Hid (∀ (W : World) (v : Value), Go.Bk.Own (fun _ => False) W wr.heap.size 3 v (countedOf (dropped s q)).uses → ∃ a c, v = .slice a nP c) := fun W v h => by
      obtain ⟨a, c, e, -⟩ := h.arr
      exact ⟨a, c, by rw [e]; show Value.slice a (outOf s.pages.length (dropped s q).roots.flatten).length c = _; rw [outOf_len, HL.out.1]⟩
    have HRES : Hid (∀ w6, RowKit.Below wr.heap.size wr w6 → Blk w6 (w.heap.size + 1) 26 [.slice none 0 0, .slice none 0 0, .slice none 0 0]) := fun w6 hb => hrs.keep (hb.block _ hrs.lt)
    have HRX : Hid (∀ w6 v1 v2, RowKit.Below wr.heap.size wr w6 → Blk (((w6.setCell ⟨w.heap.size + 1, 0, none⟩ v1).setCell ⟨w.heap.size + 1, 1, none⟩ v2).setCell ⟨w.heap.size + 1, 2, none⟩ (.slice ra i rc)) (w.heap.size + 1) 26 [v1, v2, .slice ra i rc]) := fun w6 v1 v2 hb => (((HRES.out w6 hb).set 0 v1).set 1 v2).set 2 _
    have HGR : Hid (∀ (w6 : World) v1 v2, w6.grownBy (((w6.setCell ⟨w.heap.size + 1, 0, none⟩ v1).setCell ⟨w.heap.size + 1, 1, none⟩ v2).setCell ⟨w.heap.size + 1, 2, none⟩ (.slice ra i rc)) (some (w.heap.size + 1))) := fun w6 v1 v2 => grownBy_setCell (grownBy_setCell (grownBy_setCell (World.grownBy.refl _ _) _ _) _ _) _ _
    have HRO2 : Hid (RowsOwn wr (w.heap.size + 2) 23 3 (.slice ra i rc) hs (s.roots.set q [])) := by
      rw [List.take_of_length_le (by rw [List.length_set, HL.out.2]; omega)] at hro
      exact hro
    have HSZ := Lib.hid hsz
    clear hro hbx hrs hbel
    go_wp2_with ((with_reducible refine HCN.out.mono ?_); rintro e w6 ⟨vP, vU, rfl, hoP, hoU, hb6⟩; (obtain ⟨pa, pc, rfl⟩ := HFP.out _ _ hoP); (obtain ⟨ua, uc, rfl⟩ := HFU.out _ _ hoU); have HOP := Lib.hid hoP; have HOU := Lib.hid hoU; have HB6 := Lib.hid hb6; have hrx := HRX.out w6 (.slice pa nP pc) (.slice ua nP uc) hb6; have hr6 := HRES.out w6 hb6; have g0 := hr6.cell (j := 0) rfl; have g1 := hr6.cell (j := 1) rfl; have g2 := hr6.cell (j := 2) rfl; have f0 := hr6.frozen 0; have f1 := hr6.frozen 1; have f2 := hr6.frozen 2; have hr6lt := hr6.lt; have HRXX := Lib.hid hrx; clear hoP hoU hb6 hrx hr6)
    (try simp only [Exit.inBlock, Exit.then])
    refine bodyPost_ret (results_cell_row rfl _ _ _ _ _ _ _ rfl HRXX.out Try.underlying26 rfl rfl) rfl ?_
    have hb6 := HB6.out
    have hgr := HGR.out w6 (.slice pa nP pc) (.slice ua nP uc)
    have hoP := HOP.out.keep hgr (.inr fun e => by have := (HOP.out.lt _ e).1; have := HSZ.out; omega) (fun _ h => h.elim)
    have hoU := HOU.out.keep hgr (.inr fun e => by have := (HOU.out.lt _ e).1; have := HSZ.out; omega) (fun _ h => h.elim)
    have hoR := (HRO2.out.below hb6).keepLow hgr (by omega)
    obtain ⟨pa2, pc2, e1, -, -, hpa⟩ := hoP.arr
    obtain ⟨ua2, uc2, e2, -, -, hua⟩ := hoU.arr
    injection e1 with e1 e3 e4
    injection e2 with e2 e5 e6
    subst e1 e2
    have hbel := HB.out.trans (hb6.mono HB.out.size)
    refine ⟨_, _, _, _, _, _, _, _, _, rfl, ⟨hpa.mono fun b hb => ?_, hua.mono fun b hb => ?_, hoR.arr.mono fun b hb => ?_, e3.symm, e5.symm, ?_⟩, hbel.grown hgr hbel.size (fun r hr => by cases hr; omega)⟩
    · rcases hb with h | h
      · exact h.elim
      · exact ⟨Nat.le_trans HB.out.size h.1, h.2⟩
    · rcases hb with h | h
      · exact h.elim
      · exact ⟨Nat.le_trans HB.out.size h.1, h.2⟩
    · exact ⟨by have := hb.1; omega, hb.2⟩
    · show (s.roots.set q []).length = i
      rw [List.length_set, HL.out.2]
  case pos =>
  obtain ⟨l, hl⟩ : ∃ l, s.roots[i]? = some l := ⟨_, List.getElem?_eq_getElem (by rw [HL.out.2]; exact hin)⟩
  obtain ⟨b1, o1, a', c', rfl, hsb, q0, hlc, hn', harr⟩ := row_elem (HST.out _ hbel).roots hl
  have hlt0 : w.heap.size < wr.heap.size := hbx.lt
  have hlt1 : b1 < wr.heap.size := Nat.lt_of_lt_of_le (HSS.out b1 hsb) hbel.size
  have hl16 := HSH.out l (List.mem_of_getElem? hl)
  obtain ⟨m, hm⟩ : ∃ m, m = l.length := ⟨_, rfl⟩
  rw [← hm] at q0 hl16
  have HTK : Hid (∀ y, (s.roots.set q [])[i]? = some y → (s.roots.set q []).take (i + 1) = (s.roots.set q []).take i ++ [y]) := fun y hy => by rw [List.take_add_one, hy]; rfl
  have HAR : Hid (∀ w', RowKit.Below w.heap.size w w' → Arr S w' a' l) := fun w' hb => harr.keep (fun b hb' => (hb.block b (HSS.out b hb')).trans (hbel.block b (HSS.out b hb')).symm)
  have HNL : Hid (a' = none → c' = 0) := hn'
  have HM := Lib.hid hm
  have HRA : Hid (Go.Bk.Own (fun _ => False) wr (w.heap.size + 2) 23 (.slice ra i rc) hs) := hro.out
  have HSZ := Lib.hid hsz
  by_cases hiq : i = q
  · have d1 : ((i : Int) == (q : Int)) = true := by simp [hiq]
    have HY : Hid ((s.roots.set q []).take (i + 1) = (s.roots.set q []).take i ++ [[]]) := HTK.out [] (by rw [hiq, List.getElem?_set_self (by rw [HL.out.2]; omega)])
    have HONE : Hid ((Value.slice none 0 0).oneCell' = true) := rfl
    clear hro hbx hrs hbel hl harr hm hn' hiq
    go_wp2_with (at_builtin; (with_reducible refine wp_appHd rfl rfl rfl rfl rfl (by first | rfl | simp) HRA.out HONE.out (by rw [HHL.out]; omega) HSZ.out fun v' w' hown' hg' hst' => ?_); have HO := Lib.hid hown'; have HG := Lib.hid hg'; have HSTY := Lib.hid hst'; clear hown' hg' hst')
    have hn : ∀ b, b < w.heap.size + 2 → (Value.slice ra i rc).ownBlock ≠ some b := fun b hb e => by have := (HRA.out.lt b e).1; omega
    go_roundw
    case rel =>
      refine ⟨i + 1, by omega, by go_num, ⟨hs ++ [nilHd], by rw [HY.out]; exact HRO.out.pushNil HO.out HG.out HSTY.out⟩, HBX.out.keep (HG.out.block _ HBX.out.lt (fun e => hn _ (by omega) e.symm)), HRS.out.keep (HG.out.block _ HRS.out.lt (fun e => hn _ (by omega) e.symm)), HB.out.grown HG.out HB.out.size (fun r hr => by have := (HRA.out.lt r hr).1; omega), Nat.le_trans HSZ.out HG.out.size⟩
    case measure => simp [intOf]; omega
  · have d1 : ((i : Int) == (q : Int)) = false := by simp; omega
    have HY : Hid ((s.roots.set q []).take (i + 1) = (s.roots.set q []).take i ++ [l]) := HTK.out l (by rw [List.getElem?_set_ne (fun e => hiq e.symm)]; exact hl)
    have HE0 : Hid (Go.Bk.Own (fun _ => False) (wr.alloc (.cells #[] 3)) wr.heap.size 3 (.slice (some ⟨wr.heap.size, 0, none⟩) 0 0) ([] : List Int)) := own_zero (Nat.le_refl _) box_zero
    have HBE := Lib.hid (hbel.alloc hbel.size (.cells #[] 3))
    have HAE := Lib.hid (HAR.out _ HBE.out)
    have HNE : Hid (∀ w4, wr.grownBy w4 none → True) := fun _ _ => trivial
    have HAF : Hid (∀ v4 w4, Go.Bk.Own (fun _ => False) w4 wr.heap.size 3 v4 ([] ++ l) → RowKit.Below wr.heap.size wr w4 → ∃ a4 c4, v4 = .slice a4 m c4 ∧ RowsOwn w4 (w.heap.size + 2) 23 3 (.slice ra i rc) hs ((s.roots.set q []).take i) ∧ Go.Bk.Own (fun _ => False) w4 (w.heap.size + 2) 23 (.slice ra i rc) hs ∧ w.heap.size + 2 ≤ w4.heap.size ∧ Go.Bk.Own (fun _ => False) w4 wr.heap.size 3 v4 l) := fun v4 w4 ho hb => by
      obtain ⟨a4, c4, e, -⟩ := ho.arr
      have h2 := HRO.out.below hb
      exact ⟨a4, c4, by rw [e, List.nil_append, HM.out], h2, h2.out, Nat.le_trans HSZ.out hb.size, ho⟩
    have HONE : Hid (∀ a4 c4, (Value.slice a4 m c4).oneCell' = true) := fun _ _ => rfl
    clear hro hbx hrs hbel hl harr hm hn' hiq
    go_wp2_with (first
      | (at_builtin; (at_builtin; with_reducible refine Try.wp_apps23 rfl rfl rfl rfl (HM.out.symm) (HE0.out) (HAE.out) Try.flat23 (HNL.out) (fun _ h => h.elim) (by (simp; omega)) (by first | omega | (simp; omega) | simp) fun v' w' hown' hg' => ?_); have hbw : RowKit.Below wr.heap.size wr w' := (box_below (n := 0) (c := 0) (by with_unfolding_all exact hg')); (obtain ⟨a4, c4, rfl, h42, h43, h44, h45⟩ := HAF.out _ _ hown' hbw); have HR4 := Lib.hid h42; have HO4 := Lib.hid h43; have HZ4 := Lib.hid h44; have HW4 := Lib.hid h45; have HBW := Lib.hid hbw; clear hown' hg' hbw h42 h43 h44 h45)
      | (at_builtin; (with_reducible refine wp_appHd rfl rfl rfl rfl rfl (by first | rfl | simp) HO4.out (HONE.out a4 c4) (by rw [HHL.out]; omega) HZ4.out fun v5 w5 hown5 hg5 hst5 => ?_); have HO := Lib.hid hown5; have HG := Lib.hid hg5; have HSTY := Lib.hid hst5; clear hown5 hg5 hst5))
    have hn : ∀ b, b < w.heap.size + 2 → (Value.slice ra i rc).ownBlock ≠ some b := fun b hb e => by have := (HRA.out.lt b e).1; omega
    have hb6 : RowKit.Below w.heap.size w w' := HB.out.trans (HBW.out.mono HB.out.size)
    have hpush := HR4.out.push (x := ⟨.slice a4 m c4, HONE.out a4 c4⟩) HO.out HG.out HSTY.out (own_base HW4.out HSZ.out) (fun k hk e => by have := (HW4.out.lt k hk).1; have := (HRA.out.lt k e).2; omega) (fun j y hy k hk e => by
      have h7 := (HW4.out.lt k hk).1
      obtain ⟨lx, hlx⟩ := HRO.out.getL hy
      have := ((HRO.out.row j y lx hy hlx).lt k e).2
      omega)
    have hk1 := HBX.out.keep (HBW.out.block _ HBX.out.lt)
    have hk2 := HRS.out.keep (HBW.out.block _ HRS.out.lt)
    go_roundw
    case rel =>
      refine ⟨i + 1, by omega, by go_num, ⟨_, by rw [HY.out]; exact hpush⟩, hk1.keep (HG.out.block _ hk1.lt (fun e => hn _ (by omega) e.symm)), hk2.keep (HG.out.block _ hk2.lt (fun e => hn _ (by omega) e.symm)), hb6.grown HG.out hb6.size (fun r hr => by have := (HRA.out.lt r hr).1; omega), Nat.le_trans HZ4.out HG.out.size⟩
    case measure => simp [intOf]; omega
end Go.Proofs.Ytjlnaiiajlahgaa.pag
