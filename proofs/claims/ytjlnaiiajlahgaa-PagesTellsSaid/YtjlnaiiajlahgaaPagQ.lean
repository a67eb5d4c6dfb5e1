/- PagesTells: a page put where nobody has one: walked. -/
import Derived.Test.YtjlnaiiajlahgaaPagS
import Derived.Test.YtjlnaiiajlahgaaPagP
import Derived.Test.YtjlnaiiajlahgaaAppB
import Derived.Test.YtjlnaiiajlahgaaEq4
import Derived.Test.YtjlnaiiajlahgaaBarrier
import Derived.Test.YtjlnaiiajlahgaaSteps
import Derived.StillTailTactics
set_option linter.unusedVariables false
set_option linter.unusedSimpArgs false
namespace Go.Proofs.Ytjlnaiiajlahgaa.pag
open Go.Bk Go.RowKit

def fS (g p : Nat) (vP vU : Value) (z0 z1 z2 z3 : Int) (L : Array Bool) (W : World) : Prop :=
  Till 8 (fun W => W.cell? ⟨g, 0, none⟩ = some vP) L W ∧ Till 14 (fun W => W.cell? ⟨g, 1, none⟩ = some vU) L W ∧ Till 7 (fun W => W.cell? ⟨p, 0, none⟩ = some (.int .i64 z0) ∧ W.cell? ⟨p, 1, none⟩ = some (.int .i64 z1) ∧ W.cell? ⟨p, 2, none⟩ = some (.int .i64 z2) ∧ W.cell? ⟨p, 3, none⟩ = some (.int .i64 z3)) L W
section
variable {g p : Nat} {vP vU : Value} {z0 z1 z2 z3 : Int} {L : Array Bool} {W : World}
theorem fS.void (h8 : L.getD 8 true = true) (h14 : L.getD 14 true = true) (h7 : L.getD 7 true = true) : fS g p vP vU z0 z1 z2 z3 L W :=
  ⟨fun h => (by rw [h8] at h; cases h), fun h => (by rw [h14] at h; cases h), fun h => (by rw [h7] at h; cases h)⟩
theorem fS.less {i : Nat} (h8 : i ≠ 8) (h14 : i ≠ 14) (h7 : i ≠ 7) (L : Array Bool) (W : World) (h : fS g p vP vU z0 z1 z2 z3 (L.setIfInBounds i true) W) : fS g p vP vU z0 z1 z2 z3 L W := ⟨h.1.less h8, h.2.1.less h14, h.2.2.less h7⟩
end

set_option maxRecDepth 100000 in
set_option maxHeartbeats 4000000 in
theorem fresh_any {w : World} {g B : Nat} {vP vU vR : Value} {hs : List Hd} {s : Store} {z0 z1 z2 z3 : Int} (hbx : Blk w g 26 [vP, vU, vR]) (hpt : Parts w B vP vU vR hs s) (hoff : Off vP vU vR hs g) (hB : B ≤ w.heap.size) (hl : s.uses.length = s.pages.length) (hm : s.pages.length ≤ 400) (hp : I64 z0 ∧ I64 z1 ∧ I64 z2 ∧ I64 z3) :
    Calls Try.prog 34 #[.pointer (some ⟨g, 0, none⟩), .agg #[.int .i64 z0, .int .i64 z1, .int .i64 z2, .int .i64 z3]] w (FreshPost w g B vP vU vR hs s (z0, z1, z2, z3)) := by
  have heq4 := run_eql4
  have hgl := hbx.lt
  have e1 : (w.alloc (.cells #[.int .i64 z0, .int .i64 z1, .int .i64 z2, .int .i64 z3] 64)).heap.size = w.heap.size + 1 := by simp
  have HK0 : Hid (FreshSt w (w.alloc (.cells #[.int .i64 z0, .int .i64 z1, .int .i64 z2, .int .i64 z3] 64)) g B vP vU vR hs s vP vU) :=
    ⟨blk_al hbx, hpt.keep ((RowKit.Below.refl _ _).alloc (Nat.le_refl _) _), hoff, stay_self _ _, stay_self _ _, Only.below ((RowKit.Below.refl _ _).alloc (Nat.le_refl _) _)⟩
  have HZ : Hid (Blk (w.alloc (.cells #[.int .i64 z0, .int .i64 z1, .int .i64 z2, .int .i64 z3] 64)) w.heap.size 64 (fourV (z0, z1, z2, z3))) := blk_new w (fourV (z0, z1, z2, z3)) 64
  obtain ⟨u0, uc, rfl, -, -, hua⟩ := hpt.uses.arr
  obtain ⟨p0, pc, rfl, -, -, -⟩ := hpt.pages.arr
  obtain ⟨m, hm1⟩ : ∃ m, m = s.pages.length := ⟨_, rfl⟩
  rw [hl, ← hm1] at HK0 hbx
  rw [← hm1] at hm
  rw [hl, ← hm1]
  have HP := Lib.hid hp
  have HM := Lib.hid hm1
  have HL := Lib.hid hl
  have HUA : Hid (∀ W, RowKit.Below w.heap.size w W → Arr (fun b => False ∨ B ≤ b ∧ b < w.heap.size) W u0 s.uses) := fun W hW => hua.keep (fun b hb => hW.block b (by rcases hb with h | h; exact h.elim; exact h.2))
  have HID : Hid (∀ W, RowKit.Below w.heap.size w W → Calls Try.prog 54 #[.slice u0 m uc, .int .i64 0] W (fun e w' => e = .returned (.int .i64 (idxRes (fun u => decide (u = 0)) s.uses)) ∧ W = w')) := fun W hW => idx_any (by rw [hl, hm1]) (HUA.out W hW)
  have HLT : Hid ((∀ k, (Value.slice p0 m pc).ownBlock = some k → k < w.heap.size) ∧ ∀ k, (Value.slice u0 m uc).ownBlock = some k → k < w.heap.size) := ⟨fun k h => (hpt.lt.1 k (by rw [hm1] at h; exact h)).2, fun k h => (hpt.lt.2.1 k (by rw [hm1, ← hl] at h; exact h)).2⟩
  clear hp hua hpt hoff
  go_enter Try.func34, Try.ntmps34
  by_cases hz : ((z0, z1, z2, z3) : Four) = zero4
  · have d0 : same4 (z0, z1, z2, z3) (0, 0, 0, 0) = true := by rw [same4_eq]; exact decide_eq_true hz
    have HE : Hid (newNum s (z0, z1, z2, z3) = -1 ∧ newPages s (z0, z1, z2, z3) = s.pages ∧ newUses s (z0, z1, z2, z3) = s.uses) := ⟨if_pos hz, if_pos hz, if_pos (.inl hz)⟩
    clear hz
    go_wp2_with fail
    go_ret
    exact ⟨by rw [HE.out.1]; rfl, .slice p0 m pc, .slice u0 m uc, by rw [HE.out.2.1, HE.out.2.2]; exact HK0.out⟩
  have d0 : same4 (z0, z1, z2, z3) (0, 0, 0, 0) = false := by rw [same4_eq]; exact decide_eq_false hz
  have x0 := hbx.cell (j := 0) rfl; have x1 := hbx.cell (j := 1) rfl
  have HNZ := Lib.hid hz
  clear hz
  obtain ⟨n, hn⟩ : ∃ n, n = freeOf s.uses := ⟨_, rfl⟩
  have HNI : Hid (idxRes (fun u => decide (u = 0)) s.uses = if n < m then (n : Int) else -1) := by
    show _ = _
    unfold idxRes
    rw [hl, ← hm1, hn]
    rfl
  have hnm : n ≤ m := by rw [hn, hm1, ← hl]; exact (findIdx_spec _ _).1
  by_cases hlt : n < m
  · have HE : Hid (newNum s (z0, z1, z2, z3) = n ∧ newPages s (z0, z1, z2, z3) = s.pages.set n (z0, z1, z2, z3) ∧ newUses s (z0, z1, z2, z3) = s.uses) := by
      refine ⟨?_, ?_, if_pos (.inr (by rw [← hn, hl, ← hm1]; exact hlt))⟩
      · unfold newNum; rw [if_neg HNZ.out, hn]
      · unfold newPages putPage; rw [if_neg HNZ.out, ← hn, if_pos (by omega)]
    have HI2 : Hid (idxRes (fun u => decide (u = 0)) s.uses = (n : Int)) := by show _ = _; rw [HNI.out, if_pos hlt]
    obtain ⟨y, hy⟩ : ∃ y, s.pages[n]? = some y := ⟨_, List.getElem?_eq_getElem (by omega)⟩
    obtain ⟨gp, cap, cs, hv, hBg, hgw, hle, hcs, hcell, hfz, -⟩ := HK0.out.parts.pages.at hy
    injection hv with hv1 hv2 hv3
    subst hv1 hv3
    obtain ⟨rfl, -⟩ := cells_int4 hcs
    have c0 := hcell 0 (by show 0 < 4; omega); have c1 := hcell 1 (by show 1 < 4; omega); have c2 := hcell 2 (by show 2 < 4; omega); have c3 := hcell 3 (by show 3 < 4; omega)
    change _ = some _ at c0 c1 c2 c3
    rw [show n * Rep.sz Four + 0 = n * 4 by show n * 4 + 0 = n * 4; omega] at c0
    rw [show n * Rep.sz Four + 1 = n * 4 + 1 from rfl] at c1
    rw [show n * Rep.sz Four + 2 = n * 4 + 2 from rfl] at c2
    rw [show n * Rep.sz Four + 3 = n * 4 + 3 from rfl] at c3
    have HST : Hid (FreshSt w ((((((w.alloc (.cells #[.int .i64 z0, .int .i64 z1, .int .i64 z2, .int .i64 z3] 64)).drew).setCell ⟨gp, n * 4, none⟩ (.int .i64 z0)).setCell ⟨gp, n * 4 + 1, none⟩ (.int .i64 z1)).setCell ⟨gp, n * 4 + 2, none⟩ (.int .i64 z2)).setCell ⟨gp, n * 4 + 3, none⟩ (.int .i64 z3)) g B (.slice (some ⟨gp, 0, none⟩) m pc) (.slice u0 m uc) vR hs ⟨s.pages.set n (z0, z1, z2, z3), s.uses, s.roots⟩ (.slice (some ⟨gp, 0, none⟩) m pc) (.slice u0 m uc)) :=
      HK0.out.drew.put (y := (z0, z1, z2, z3)) rfl hy HP.out.1 HP.out.2.1 HP.out.2.2.1 HP.out.2.2.2
    have y0 := HK0.out.box.cell (j := 0) rfl; have y1 := HK0.out.box.cell (j := 1) rfl
    have t0 := HZ.out.cell (j := 0) rfl; have t1 := HZ.out.cell (j := 1) rfl; have t2 := HZ.out.cell (j := 2) rfl; have t3 := HZ.out.cell (j := 3) rfl
    have f0 := hfz (n * 4); have f1 := hfz (n * 4 + 1); have f2 := hfz (n * 4 + 2); have f3 := hfz (n * 4 + 3)
    clear hcs hcell hfz hy hbx HK0 HZ hl
    have HBA : Hid (RowKit.Below w.heap.size w (w.alloc (.cells #[.int .i64 z0, .int .i64 z1, .int .i64 z2, .int .i64 z3] 64))) := (RowKit.Below.refl _ _).alloc (Nat.le_refl _) _
    clear hn hm1 hv2
    have dn : decide ((n : Int) < 0) = false := decide_eq_false (by omega)
    go_upto_region 7 with ((with_reducible refine (HID.out _ HBA.out).mono ?_); rintro e w2 ⟨rfl, rfl⟩; rw [HI2.out])
    clear HBA
    generalize w.alloc (.cells #[.int .i64 z0, .int .i64 z1, .int .i64 z2, .int .i64 z3] 64) = w1 at *
    go_still_tail 7, (by kernel_rfl)
    change wpList _ _ _ _ _ w1.drew
    go_wp2_with fail
    go_ret
    exact ⟨by rw [HE.out.1]; rfl, _, _, by rw [HE.out.2.1, HE.out.2.2]; exact HST.out⟩
  · have hmn : m = n := by omega
    have HE : Hid (newNum s (z0, z1, z2, z3) = m ∧ newPages s (z0, z1, z2, z3) = s.pages ++ [(z0, z1, z2, z3)] ∧ newUses s (z0, z1, z2, z3) = s.uses ++ [0]) := by
      refine ⟨?_, ?_, if_neg (fun h => ?_)⟩
      · unfold newNum; rw [if_neg HNZ.out, ← hn, hmn]
      · unfold newPages putPage; rw [if_neg HNZ.out, ← hn, if_neg (by omega)]
      · rcases h with h | h
        · exact HNZ.out h
        · rw [← hn, hl, ← hm1] at h; omega
    have HI2 : Hid (idxRes (fun u => decide (u = 0)) s.uses = (-1 : Int)) := by show _ = _; rw [HNI.out, if_neg hlt]
    have hwl : w.heap.size < (w.alloc (.cells #[.int .i64 z0, .int .i64 z1, .int .i64 z2, .int .i64 z3] 64)).heap.size := by omega
    have hg1 : g < (w.alloc (.cells #[.int .i64 z0, .int .i64 z1, .int .i64 z2, .int .i64 z3] 64)).heap.size := by omega
    have HBW : Hid (RowKit.Below w.heap.size w (w.alloc (.cells #[.int .i64 z0, .int .i64 z1, .int .i64 z2, .int .i64 z3] 64))) := (RowKit.Below.refl _ _).alloc (Nat.le_refl _) _
    have HM0 : Hid (MidSt w (w.alloc (.cells #[.int .i64 z0, .int .i64 z1, .int .i64 z2, .int .i64 z3] 64)) g B (.slice p0 m pc) (.slice u0 m uc) vR hs s (.slice p0 m pc) (.slice u0 m uc)) := ⟨HK0.out.box, HK0.out.parts, HK0.out.off, HK0.out.stP, HK0.out.stU, HK0.out.only⟩
    have y0 := HK0.out.box.cell (j := 0) rfl; have y1 := HK0.out.box.cell (j := 1) rfl
    have t0 := HZ.out.cell (j := 0) rfl; have t1 := HZ.out.cell (j := 1) rfl; have t2 := HZ.out.cell (j := 2) rfl; have t3 := HZ.out.cell (j := 3) rfl
    have HG0 : Hid (g < w.heap.size ∧ B ≤ w.heap.size) := ⟨hgl, hB⟩
    clear hn hm1 hmn hlt hnm hl hbx HK0 e1
    go_upto_region 6 with ((with_reducible refine (HID.out _ HBW.out).mono ?_); rintro e w2 ⟨rfl, rfl⟩; rw [HI2.out])
    clear HID HUA HI2 HNI HBW x0 x1
    generalize w.alloc (.cells #[.int .i64 z0, .int .i64 z1, .int .i64 z2, .int .i64 z3] 64) = w1 at *
    go_cut [] (fun wz => ∃ (p1 : Option Addr) (c1 : Nat) (u1 : Option Addr) (c2 : Nat), FreshSt w wz g B (.slice p0 m pc) (.slice u0 m uc) vR hs ⟨s.pages ++ [(z0, z1, z2, z3)], s.uses ++ [0], s.roots⟩ (.slice p1 (m + 1) c1) (.slice u1 (m + 1) c2) ∧ Blk wz w.heap.size 64 (fourV (z0, z1, z2, z3)))
    case first =>
      have HMW : Hid (∀ W, RowKit.Below w1.heap.size w1 W → MidSt w W g B (.slice p0 m pc) (.slice u0 m uc) vR hs s (.slice p0 m pc) (.slice u0 m uc)) := fun W hW => HM0.out.keep hW
      have HPO : Hid (∀ W, RowKit.Below w1.heap.size w1 W → Go.Bk.Own (fun _ => False) W B 64 (.slice p0 m pc) s.pages ∧ B ≤ W.heap.size) := fun W hW => ⟨(HMW.out W hW).parts.pages, by have := hW.size; have := HM0.out.only.size; have := HG0.out.2; omega⟩
      have HCL : Hid (∀ W, Rep.cells (fun _ => False) W (fourV (z0, z1, z2, z3)) ((z0, z1, z2, z3) : Four)) := fun W => cells_int4_mk HP.out.1 HP.out.2.1 HP.out.2.2.1 HP.out.2.2.2
      have HLEN : Hid (s.pages.length = m ∧ s.uses.length = m) := ⟨HM.out.symm, HL.out.trans HM.out.symm⟩
      have HMID : Hid (∀ (W w5 : World) (v5 : Value), RowKit.Below w1.heap.size w1 W → Go.Bk.Own (fun _ => False) w5 B 64 v5 (s.pages ++ [(z0, z1, z2, z3)]) → W.grownBy w5 (Value.slice p0 m pc).ownBlock → Stay W (.slice p0 m pc) v5 →
          ∃ p1 c1, v5 = .slice p1 (m + 1) c1 ∧ MidSt w w5 g B (.slice p0 m pc) (.slice u0 m uc) vR hs ⟨s.pages ++ [(z0, z1, z2, z3)], s.uses, s.roots⟩ (.slice p1 (m + 1) c1) (.slice u0 m uc) ∧ Blk w5 w.heap.size 64 (fourV (z0, z1, z2, z3)) ∧ (∀ b, w1.heap.size ≤ b → Blk W b 3 [.int .i64 0] → Blk w5 b 3 [.int .i64 0])) := fun W w5 v5 hW ho hg hst => by
        obtain ⟨a, c, e, -⟩ := ho.arr
        rw [List.length_append, HLEN.out.1] at e
        change v5 = .slice a (m + 1) c at e
        subst e
        have h1 := (HMW.out W hW).pushP HG0.out.1 ho hg hst
        have hlt := HM0.out.parts.pages.lt
        have hlt2 := (HPO.out W hW).1.lt
        refine ⟨a, c, rfl, h1, (HZ.out.keep (hW.block _ HZ.out.lt)).keep (hg.block _ (Nat.lt_of_lt_of_le HZ.out.lt hW.size) (fun e => by have := HLT.out.1 _ e.symm; omega)), fun b hb hk => hk.keep (hg.block b hk.lt (fun e => by have := (hlt b e.symm).2; omega))⟩
      have HUO : Hid (∀ (w5 W : World) (v5 : Value) (ps : List Four), MidSt w w5 g B (.slice p0 m pc) (.slice u0 m uc) vR hs ⟨ps, s.uses, s.roots⟩ v5 (.slice u0 m uc) → RowKit.Below w5.heap.size w5 W → Go.Bk.Own (fun _ => False) W B 3 (.slice u0 m uc) s.uses ∧ B ≤ W.heap.size) := fun w5 W v5 ps h hW => ⟨(h.keep hW).parts.uses, by have := hW.size; have := h.only.size; have := HG0.out.2; omega⟩
      have HEND : Hid (∀ (w5 W w6 : World) (p1 : Option Addr) (c1 : Nat) (v6 : Value), MidSt w w5 g B (.slice p0 m pc) (.slice u0 m uc) vR hs ⟨s.pages ++ [(z0, z1, z2, z3)], s.uses, s.roots⟩ (.slice p1 (m + 1) c1) (.slice u0 m uc) → Blk w5 w.heap.size 64 (fourV (z0, z1, z2, z3)) → RowKit.Below w5.heap.size w5 W →
          Go.Bk.Own (fun _ => False) w6 B 3 v6 (s.uses ++ [0]) → W.grownBy w6 (Value.slice u0 m uc).ownBlock → Stay W (.slice u0 m uc) v6 →
          ∃ u1 c2, v6 = .slice u1 (m + 1) c2 ∧ Blk w6 g 26 [.slice p0 m pc, .slice u0 m uc, vR] ∧ FreshSt w ((w6.setCell ⟨g, 0, none⟩ (.slice p1 (m + 1) c1)).setCell ⟨g, 1, none⟩ (.slice u1 (m + 1) c2)) g B (.slice p0 m pc) (.slice u0 m uc) vR hs ⟨s.pages ++ [(z0, z1, z2, z3)], s.uses ++ [0], s.roots⟩ (.slice p1 (m + 1) c1) (.slice u1 (m + 1) c2) ∧ Blk ((w6.setCell ⟨g, 0, none⟩ (.slice p1 (m + 1) c1)).setCell ⟨g, 1, none⟩ (.slice u1 (m + 1) c2)) w.heap.size 64 (fourV (z0, z1, z2, z3))) := fun w5 W w6 p1 c1 v6 h hz hW ho hg hst => by
        obtain ⟨a, c, e, -⟩ := ho.arr
        rw [List.length_append, HLEN.out.2] at e
        change v6 = .slice a (m + 1) c at e
        subst e
        have h1 := (h.keep hW).pushU HG0.out.1 ho hg hst
        have hgs : w6.grownBy ((w6.setCell ⟨g, 0, none⟩ (.slice p1 (m + 1) c1)).setCell ⟨g, 1, none⟩ (.slice a (m + 1) c)) (some g) := grownBy_setCell (grownBy_setCell (World.grownBy.refl _ _) _ _) _ _
        have hz2 := (hz.keep (hW.block _ hz.lt)).keep (hg.block _ (Nat.lt_of_lt_of_le hz.lt hW.size) (fun e => by have := HLT.out.2 _ e.symm; omega))
        exact ⟨a, c, rfl, h1.box, h1.store, hz2.keep (hgs.block _ hz2.lt (fun e => by have := Option.some.inj e; have := HG0.out.1; omega))⟩
      have HLE : Hid (w1.heap.size ≤ w1.heap.size + 1) := Nat.le_succ _
      have H28a : Hid (Blk (w1.alloc (.cells #[.int .i64 z0, .int .i64 z1, .int .i64 z2, .int .i64 z3] 64)).drew w1.heap.size 64 (fourV (z0, z1, z2, z3))) := blk_dr (blk_new w1 (fourV (z0, z1, z2, z3)) _)
      have H28b : Hid (Blk ((w1.alloc (.cells #[.int .i64 z0, .int .i64 z1, .int .i64 z2, .int .i64 z3] 64)).alloc (.cells #[.int .i64 0] 3)).drew w1.heap.size 64 (fourV (z0, z1, z2, z3))) := blk_dr (blk_al (blk_new w1 (fourV (z0, z1, z2, z3)) _))
      have H28c : Hid (Blk ((w1.alloc (.cells #[.int .i64 0] 3)).alloc (.cells #[.int .i64 z0, .int .i64 z1, .int .i64 z2, .int .i64 z3] 64)).drew (w1.heap.size + 1) 64 (fourV (z0, z1, z2, z3))) := blk_dr (blk_new' (cs := fourV (z0, z1, z2, z3)) (by simp))
      have HU2 : Hid (Blk ((w1.alloc (.cells #[.int .i64 z0, .int .i64 z1, .int .i64 z2, .int .i64 z3] 64)).alloc (.cells #[.int .i64 0] 3)).drew (w1.heap.size + 1) 3 [.int .i64 0]) := blk_dr (blk_new' (cs := [.int .i64 0]) (by simp))
      have HU3 : Hid (Blk ((w1.alloc (.cells #[.int .i64 0] 3)).alloc (.cells #[.int .i64 z0, .int .i64 z1, .int .i64 z2, .int .i64 z3] 64)).drew w1.heap.size 3 [.int .i64 0]) := blk_dr (blk_al (blk_new w1 [.int .i64 0] _))
      have HSL : Hid (∀ L W, RowKit.Below w1.heap.size w1 W → fS g w.heap.size (.slice p0 m pc) (.slice u0 m uc) z0 z1 z2 z3 L W) := fun L W hW => by
        have hb := (HMW.out W hW).box; have hz := HZ.out.keep (hW.block _ HZ.out.lt)
        exact ⟨fun _ => hb.cell (j := 0) rfl, fun _ => hb.cell (j := 1) rfl, fun _ => ⟨hz.cell (j := 0) rfl, hz.cell (j := 1) rfl, hz.cell (j := 2) rfl, hz.cell (j := 3) rfl⟩⟩
      have HSM : Hid (∀ L w5 W v5 ps, MidSt w w5 g B (.slice p0 m pc) (.slice u0 m uc) vR hs ⟨ps, s.uses, s.roots⟩ v5 (.slice u0 m uc) → Blk w5 w.heap.size 64 (fourV (z0, z1, z2, z3)) → RowKit.Below w5.heap.size w5 W → fS g w.heap.size (.slice p0 m pc) (.slice u0 m uc) z0 z1 z2 z3 L W) := fun L w5 W v5 ps h hz hW => by
        have hb := (h.keep hW).box; have hz := hz.keep (hW.block _ hz.lt)
        exact ⟨fun _ => hb.cell (j := 0) rfl, fun _ => hb.cell (j := 1) rfl, fun _ => ⟨hz.cell (j := 0) rfl, hz.cell (j := 1) rfl, hz.cell (j := 2) rfl, hz.cell (j := 3) rfl⟩⟩
      clear HMW HM0
      refine wp_region_noPanic ?_
      refine wp_region_B (fS g w.heap.size (.slice p0 m pc) (.slice u0 m uc) z0 z1 z2 z3) (by kernel_rfl) ?_
      have HS0 : Hid (∀ L, fS g w.heap.size (.slice p0 m pc) (.slice u0 m uc) z0 z1 z2 z3 L w1.drew) := fun L => HSL.out L _ (RowKit.Below.refl _ _).drew
      refine wpAnyB_take (i := 0) (v := ?v0) rfl (by kernel_rfl) (by kernel_rfl) (by kernel_rfl) (fun _ _ _ h => h) (fS.less (by decide) (by decide) (by decide)) (Or.inl ⟨by rfl, ?hy0⟩) (HS0.out _) ?rest0
      case hy0 => (intro W hW; go_simp; try with_reducible rfl)
      (try simp only [Act.put, List.setIfInBounds_toArray, List.set_cons_zero, List.set_cons_succ, List.getElem_toArray, List.getElem_cons_zero, List.getElem_cons_succ])
      refine wpAnyB_take (i := 1) (v := ?v1) rfl (by kernel_rfl) (by kernel_rfl) (by kernel_rfl) (fun _ _ _ h => h) (fS.less (by decide) (by decide) (by decide)) (Or.inl ⟨by rfl, ?hy1⟩) (HS0.out _) ?rest1
      case hy1 => (intro W hW; go_simp; try with_reducible rfl)
      (try simp only [Act.put, List.setIfInBounds_toArray, List.set_cons_zero, List.set_cons_succ, List.getElem_toArray, List.getElem_cons_zero, List.getElem_cons_succ])
      refine wpAnyB_take (i := 2) (v := ?v2) rfl (by kernel_rfl) (by kernel_rfl) (by kernel_rfl) (fun _ _ _ h => h) (fS.less (by decide) (by decide) (by decide)) (Or.inl ⟨by rfl, ?hy2⟩) (HS0.out _) ?rest2
      case hy2 => (intro W hW; go_simp; try with_reducible rfl)
      (try simp only [Act.put, List.setIfInBounds_toArray, List.set_cons_zero, List.set_cons_succ, List.getElem_toArray, List.getElem_cons_zero, List.getElem_cons_succ])
      refine wpAnyB_take (i := 3) (v := ?v3) rfl (by kernel_rfl) (by kernel_rfl) (by kernel_rfl) (fun _ _ _ h => h) (fS.less (by decide) (by decide) (by decide)) (Or.inl ⟨by rfl, ?hy3⟩) (HS0.out _) ?rest3
      case hy3 => (intro W hW; go_simp; try with_reducible rfl)
      (try simp only [Act.put, List.setIfInBounds_toArray, List.set_cons_zero, List.set_cons_succ, List.getElem_toArray, List.getElem_cons_zero, List.getElem_cons_succ])
      refine wpAnyB_take (i := 4) (v := ?v4) rfl (by kernel_rfl) (by kernel_rfl) (by kernel_rfl) (fun _ _ _ h => h) (fS.less (by decide) (by decide) (by decide)) (Or.inl ⟨by rfl, ?hy4⟩) (HS0.out _) ?rest4
      case hy4 => (intro W hW; go_simp; try with_reducible rfl)
      (try simp only [Act.put, List.setIfInBounds_toArray, List.set_cons_zero, List.set_cons_succ, List.getElem_toArray, List.getElem_cons_zero, List.getElem_cons_succ])
      refine wpAnyB_take (i := 9) (v := ?v9) rfl (by kernel_rfl) (by kernel_rfl) (by kernel_rfl) (fun _ _ _ h => h) (fS.less (by decide) (by decide) (by decide)) (Or.inl ⟨by rfl, ?hy9⟩) (HS0.out _) ?rest9
      case hy9 => (intro W hW; go_simp; try with_reducible rfl)
      (try simp only [Act.put, List.setIfInBounds_toArray, List.set_cons_zero, List.set_cons_succ, List.getElem_toArray, List.getElem_cons_zero, List.getElem_cons_succ])
      refine wpAnyB_take (i := 10) (v := ?v10) rfl (by kernel_rfl) (by kernel_rfl) (by kernel_rfl) (fun _ _ _ h => h) (fS.less (by decide) (by decide) (by decide)) (Or.inl ⟨by rfl, ?hy10⟩) (HS0.out _) ?rest10
      case hy10 => (intro W hW; go_simp; try with_reducible rfl)
      (try simp only [Act.put, List.setIfInBounds_toArray, List.set_cons_zero, List.set_cons_succ, List.getElem_toArray, List.getElem_cons_zero, List.getElem_cons_succ])
      refine wpAnyB_take (i := 11) (v := ?v11) rfl (by kernel_rfl) (by kernel_rfl) (by kernel_rfl) (fun _ _ _ h => h) (fS.less (by decide) (by decide) (by decide)) (Or.inl ⟨by rfl, ?hy11⟩) (HS0.out _) ?rest11
      case hy11 => (intro W hW; go_simp; try with_reducible rfl)
      (try simp only [Act.put, List.setIfInBounds_toArray, List.set_cons_zero, List.set_cons_succ, List.getElem_toArray, List.getElem_cons_zero, List.getElem_cons_succ])
      refine wpAnyB_load (i := 5) (b := 8) (v := ?v5) rfl (by kernel_rfl) (by kernel_rfl) (by kernel_rfl) (by kernel_rfl) (by decide) (by kernel_rfl) (fun _ _ _ h => h) (fS.less (by decide) (by decide) (by decide)) (fun L W hb h => h.1 hb) (Or.inl ⟨by rfl, ?hy5⟩) (HS0.out _) ?rest5
      case hy5 => (intro W hW; (try dsimp only at hW); (try go_split_ands); go_simp; try with_reducible rfl)
      (try simp only [Act.put, List.setIfInBounds_toArray, List.set_cons_zero, List.set_cons_succ, List.getElem_toArray, List.getElem_cons_zero, List.getElem_cons_succ])
      refine wpAnyB_load (i := 12) (b := 14) (v := ?v12) rfl (by kernel_rfl) (by kernel_rfl) (by kernel_rfl) (by kernel_rfl) (by decide) (by kernel_rfl) (fun _ _ _ h => h) (fS.less (by decide) (by decide) (by decide)) (fun L W hb h => h.2.1 hb) (Or.inl ⟨by rfl, ?hy12⟩) (HS0.out _) ?rest12
      case hy12 => (intro W hW; (try dsimp only at hW); (try go_split_ands); go_simp; try with_reducible rfl)
      (try simp only [Act.put, List.setIfInBounds_toArray, List.set_cons_zero, List.set_cons_succ, List.getElem_toArray, List.getElem_cons_zero, List.getElem_cons_succ])
      refine wpAnyB_load (i := 6) (b := 7) (v := ?v6) rfl (by kernel_rfl) (by kernel_rfl) (by kernel_rfl) (by kernel_rfl) (by decide) (by kernel_rfl) (fun _ _ _ h => h) (fS.less (by decide) (by decide) (by decide)) (fun L W hb h => h.2.2 hb) (Or.inl ⟨by rfl, ?hy6⟩) (HS0.out _) ?rest6
      case hy6 => (intro W hW; (try dsimp only at hW); (try go_split_ands); go_simp; try with_reducible rfl)
      (try simp only [Act.put, List.setIfInBounds_toArray, List.set_cons_zero, List.set_cons_succ, List.getElem_toArray, List.getElem_cons_zero, List.getElem_cons_succ])
      refine wpAnyB_ready (rs := [7, 13]) (by kernel_rfl) (by simp) (AllReadyB.cons rfl (fun K hK => ?_) (AllReadyB.cons rfl (fun K hK => ?_) AllReadyB.nil))
      · skip
        go_simp
        refine hK.out _ _ (HSL.out _ _ (by repeat (first | with_reducible exact RowKit.Below.refl _ _ | with_reducible refine below_al ?_ | with_reducible refine below_dr ?_))) ?_
        clear hK K
        (try simp only [Act.put, List.setIfInBounds_toArray, List.set_cons_zero, List.set_cons_succ, List.getElem_toArray, List.getElem_cons_zero, List.getElem_cons_succ])
        refine wpAnyB_ready (rs := [8, 13]) (by kernel_rfl) (by simp) (AllReadyB.cons rfl (fun K hK => ?_) (AllReadyB.cons rfl (fun K hK => ?_) AllReadyB.nil))
        · skip
          refine step_of_list rfl fun Q' hQ => ?_
          refine wp_appB (B := B) (cs := fourV (z0, z1, z2, z3)) (y := ((z0, z1, z2, z3) : Four)) (xs := s.pages) rfl rfl Try.underlying22 info4 (by decide) (by decide) rfl rfl (by first | exact H28a.out | exact H28b.out | exact H28c.out) (HPO.out _ (by repeat (first | with_reducible exact RowKit.Below.refl _ _ | with_reducible refine below_al ?_ | with_reducible refine below_dr ?_))).1 (HCL.out _) (by rw [HLEN.out.1]; unfold maxLen; omega) (by rw [HLEN.out.1]; omega) (HPO.out _ (by repeat (first | with_reducible exact RowKit.Below.refl _ _ | with_reducible refine below_al ?_ | with_reducible refine below_dr ?_))).2 fun v5 w5 ho5 hg5 hst5 => ?_
          (obtain ⟨p1, c1, rfl, hm5, hz5, hub⟩ := HMID.out _ w5 v5 (by repeat (first | with_reducible exact RowKit.Below.refl _ _ | with_reducible refine below_al ?_ | with_reducible refine below_dr ?_)) ho5 hg5 hst5)
          have HM5 := Lib.hid hm5; have HZ5 := Lib.hid hz5; have yy1 := hm5.box.cell (j := 1) rfl; have hgl5 := hm5.box.lt
          (first | (have HUB := Lib.hid (hub _ HLE.out HU2.out)) | (have HUB := Lib.hid (hub _ (Nat.le_refl _) HU3.out)) | skip)
          refine (hQ _ _).2 ?_
          clear hQ Q' ho5 hg5 hst5 hm5 hz5 hub
          refine hK.out _ _ (HSM.out _ w5 _ _ _ HM5.out HZ5.out (by repeat (first | with_reducible exact RowKit.Below.refl _ _ | with_reducible refine below_al ?_))) ?_
          clear hK K
          (try simp only [Act.put, List.setIfInBounds_toArray, List.set_cons_zero, List.set_cons_succ, List.getElem_toArray, List.getElem_cons_zero, List.getElem_cons_succ])
          refine wpAnyB_ready (rs := [13]) (by kernel_rfl) (by simp) (AllReadyB.cons rfl (fun K hK => ?_) AllReadyB.nil)
          go_simp
          refine hK.out _ _ (HSM.out _ w5 _ _ _ HM5.out HZ5.out (by repeat (first | with_reducible exact RowKit.Below.refl _ _ | with_reducible refine below_al ?_))) ?_
          clear hK K
          (try simp only [Act.put, List.setIfInBounds_toArray, List.set_cons_zero, List.set_cons_succ, List.getElem_toArray, List.getElem_cons_zero, List.getElem_cons_succ])
          refine wpAnyB_ready (rs := [14]) (by kernel_rfl) (by simp) (AllReadyB.cons rfl (fun K hK => ?_) AllReadyB.nil)
          refine step_of_list rfl fun Q' hQ => ?_
          refine wp_appB (B := B) (cs := [.int .i64 0]) (y := (0 : Int)) (xs := s.uses) rfl rfl Try.underlying23 (show _ = some (some _, Rep.sz Int, _) from Try.info3) (by decide) (by decide) rfl rfl (by first | exact HUB.out | exact blk_new' (cs := [.int .i64 0]) rfl) (HUO.out w5 _ _ _ HM5.out (by repeat (first | with_reducible exact RowKit.Below.refl _ _ | with_reducible refine below_al ?_))).1 ⟨rfl, by unfold I64; omega⟩ (by rw [HLEN.out.2]; unfold maxLen; omega) (by rw [HLEN.out.2]; omega) (HUO.out w5 _ _ _ HM5.out (by repeat (first | with_reducible exact RowKit.Below.refl _ _ | with_reducible refine below_al ?_))).2 fun v6 w6 ho6 hg6 hst6 => ?_
          (obtain ⟨u1, c2, rfl, hb6, hf6, hz6⟩ := HEND.out w5 _ w6 p1 c1 v6 HM5.out HZ5.out (by repeat (first | with_reducible exact RowKit.Below.refl _ _ | with_reducible refine below_al ?_)) ho6 hg6 hst6)
          have s0 := hb6.cell (j := 0) rfl; have s1 := hb6.cell (j := 1) rfl; have sf0 := hb6.frozen 0; have sf1 := hb6.frozen 1
          have HF6 := Lib.hid hf6; have HZ6 := Lib.hid hz6
          refine (hQ _ _).2 ?_
          clear hQ Q' ho6 hg6 hst6 hb6 hf6 hz6
          refine hK.out _ _ (fS.void (by kernel_rfl) (by kernel_rfl) (by kernel_rfl)) ?_
          clear hK K
          (try simp only [Act.put, List.setIfInBounds_toArray, List.set_cons_zero, List.set_cons_succ, List.getElem_toArray, List.getElem_cons_zero, List.getElem_cons_succ])
          refine wpAnyB_ready (rs := [15]) (by kernel_rfl) (by simp) (AllReadyB.cons rfl (fun K hK => ?_) AllReadyB.nil)
          go_simp
          refine hK.out _ _ (fS.void (by kernel_rfl) (by kernel_rfl) (by kernel_rfl)) ?_
          clear hK K
          (try simp only [Act.put, List.setIfInBounds_toArray, List.set_cons_zero, List.set_cons_succ, List.getElem_toArray, List.getElem_cons_zero, List.getElem_cons_succ])
          refine wpAnyB_ready (rs := [16]) (by kernel_rfl) (by simp) (AllReadyB.cons rfl (fun K hK => ?_) AllReadyB.nil)
          go_simp
          refine hK.out _ _ (fS.void (by kernel_rfl) (by kernel_rfl) (by kernel_rfl)) ?_
          clear hK K
          (try simp only [Act.put, List.setIfInBounds_toArray, List.set_cons_zero, List.set_cons_succ, List.getElem_toArray, List.getElem_cons_zero, List.getElem_cons_succ])
          refine wpAnyB_ready (rs := [17]) (by kernel_rfl) (by simp) (AllReadyB.cons rfl (fun K hK => ?_) AllReadyB.nil)
          go_simp
          refine hK.out _ _ (fS.void (by kernel_rfl) (by kernel_rfl) (by kernel_rfl)) ?_
          clear hK K
          (try simp only [Act.put, List.setIfInBounds_toArray, List.set_cons_zero, List.set_cons_succ, List.getElem_toArray, List.getElem_cons_zero, List.getElem_cons_succ])
          refine wpAnyB_ready (rs := [18]) (by kernel_rfl) (by simp) (AllReadyB.cons rfl (fun K hK => ?_) AllReadyB.nil)
          go_simp
          refine hK.out _ _ (fS.void (by kernel_rfl) (by kernel_rfl) (by kernel_rfl)) ?_
          clear hK K
          (try simp only [Act.put, List.setIfInBounds_toArray, List.set_cons_zero, List.set_cons_succ, List.getElem_toArray, List.getElem_cons_zero, List.getElem_cons_succ])
          refine wpAnyB_ready (rs := [19]) (by kernel_rfl) (by simp) (AllReadyB.cons rfl (fun K hK => ?_) AllReadyB.nil)
          go_simp
          refine hK.out _ _ (fS.void (by kernel_rfl) (by kernel_rfl) (by kernel_rfl)) ?_
          clear hK K
          (try simp only [Act.put, List.setIfInBounds_toArray, List.set_cons_zero, List.set_cons_succ, List.getElem_toArray, List.getElem_cons_zero, List.getElem_cons_succ])
          refine wpAnyB_ready (rs := [20]) (by kernel_rfl) (by simp) (AllReadyB.cons rfl (fun K hK => ?_) AllReadyB.nil)
          go_simp
          refine hK.out _ _ (fS.void (by kernel_rfl) (by kernel_rfl) (by kernel_rfl)) ?_
          clear hK K
          (try simp only [Act.put, List.setIfInBounds_toArray, List.set_cons_zero, List.set_cons_succ, List.getElem_toArray, List.getElem_cons_zero, List.getElem_cons_succ])
          refine wpAnyB_done (by kernel_rfl) ?_ _
          refine NoPanic.normal ?_
          go_wp2_with fail
          go_meet
          exact ⟨p1, c1, u1, c2, HF6.out, HZ6.out⟩
        · skip
          go_simp
          refine hK.out _ _ (HSL.out _ _ (by repeat (first | with_reducible exact RowKit.Below.refl _ _ | with_reducible refine below_al ?_ | with_reducible refine below_dr ?_))) ?_
          clear hK K
          (try simp only [Act.put, List.setIfInBounds_toArray, List.set_cons_zero, List.set_cons_succ, List.getElem_toArray, List.getElem_cons_zero, List.getElem_cons_succ])
          refine wpAnyB_ready (rs := [8]) (by kernel_rfl) (by simp) (AllReadyB.cons rfl (fun K hK => ?_) AllReadyB.nil)
          refine step_of_list rfl fun Q' hQ => ?_
          refine wp_appB (B := B) (cs := fourV (z0, z1, z2, z3)) (y := ((z0, z1, z2, z3) : Four)) (xs := s.pages) rfl rfl Try.underlying22 info4 (by decide) (by decide) rfl rfl (by first | exact H28a.out | exact H28b.out | exact H28c.out) (HPO.out _ (by repeat (first | with_reducible exact RowKit.Below.refl _ _ | with_reducible refine below_al ?_ | with_reducible refine below_dr ?_))).1 (HCL.out _) (by rw [HLEN.out.1]; unfold maxLen; omega) (by rw [HLEN.out.1]; omega) (HPO.out _ (by repeat (first | with_reducible exact RowKit.Below.refl _ _ | with_reducible refine below_al ?_ | with_reducible refine below_dr ?_))).2 fun v5 w5 ho5 hg5 hst5 => ?_
          (obtain ⟨p1, c1, rfl, hm5, hz5, hub⟩ := HMID.out _ w5 v5 (by repeat (first | with_reducible exact RowKit.Below.refl _ _ | with_reducible refine below_al ?_ | with_reducible refine below_dr ?_)) ho5 hg5 hst5)
          have HM5 := Lib.hid hm5; have HZ5 := Lib.hid hz5; have yy1 := hm5.box.cell (j := 1) rfl; have hgl5 := hm5.box.lt
          (first | (have HUB := Lib.hid (hub _ HLE.out HU2.out)) | (have HUB := Lib.hid (hub _ (Nat.le_refl _) HU3.out)) | skip)
          refine (hQ _ _).2 ?_
          clear hQ Q' ho5 hg5 hst5 hm5 hz5 hub
          refine hK.out _ _ (HSM.out _ w5 _ _ _ HM5.out HZ5.out (by repeat (first | with_reducible exact RowKit.Below.refl _ _ | with_reducible refine below_al ?_))) ?_
          clear hK K
          (try simp only [Act.put, List.setIfInBounds_toArray, List.set_cons_zero, List.set_cons_succ, List.getElem_toArray, List.getElem_cons_zero, List.getElem_cons_succ])
          refine wpAnyB_ready (rs := [14]) (by kernel_rfl) (by simp) (AllReadyB.cons rfl (fun K hK => ?_) AllReadyB.nil)
          refine step_of_list rfl fun Q' hQ => ?_
          refine wp_appB (B := B) (cs := [.int .i64 0]) (y := (0 : Int)) (xs := s.uses) rfl rfl Try.underlying23 (show _ = some (some _, Rep.sz Int, _) from Try.info3) (by decide) (by decide) rfl rfl (by first | exact HUB.out | exact blk_new' (cs := [.int .i64 0]) rfl) (HUO.out w5 _ _ _ HM5.out (by repeat (first | with_reducible exact RowKit.Below.refl _ _ | with_reducible refine below_al ?_))).1 ⟨rfl, by unfold I64; omega⟩ (by rw [HLEN.out.2]; unfold maxLen; omega) (by rw [HLEN.out.2]; omega) (HUO.out w5 _ _ _ HM5.out (by repeat (first | with_reducible exact RowKit.Below.refl _ _ | with_reducible refine below_al ?_))).2 fun v6 w6 ho6 hg6 hst6 => ?_
          (obtain ⟨u1, c2, rfl, hb6, hf6, hz6⟩ := HEND.out w5 _ w6 p1 c1 v6 HM5.out HZ5.out (by repeat (first | with_reducible exact RowKit.Below.refl _ _ | with_reducible refine below_al ?_)) ho6 hg6 hst6)
          have s0 := hb6.cell (j := 0) rfl; have s1 := hb6.cell (j := 1) rfl; have sf0 := hb6.frozen 0; have sf1 := hb6.frozen 1
          have HF6 := Lib.hid hf6; have HZ6 := Lib.hid hz6
          refine (hQ _ _).2 ?_
          clear hQ Q' ho6 hg6 hst6 hb6 hf6 hz6
          refine hK.out _ _ (fS.void (by kernel_rfl) (by kernel_rfl) (by kernel_rfl)) ?_
          clear hK K
          (try simp only [Act.put, List.setIfInBounds_toArray, List.set_cons_zero, List.set_cons_succ, List.getElem_toArray, List.getElem_cons_zero, List.getElem_cons_succ])
          refine wpAnyB_ready (rs := [15]) (by kernel_rfl) (by simp) (AllReadyB.cons rfl (fun K hK => ?_) AllReadyB.nil)
          go_simp
          refine hK.out _ _ (fS.void (by kernel_rfl) (by kernel_rfl) (by kernel_rfl)) ?_
          clear hK K
          (try simp only [Act.put, List.setIfInBounds_toArray, List.set_cons_zero, List.set_cons_succ, List.getElem_toArray, List.getElem_cons_zero, List.getElem_cons_succ])
          refine wpAnyB_ready (rs := [16]) (by kernel_rfl) (by simp) (AllReadyB.cons rfl (fun K hK => ?_) AllReadyB.nil)
          go_simp
          refine hK.out _ _ (fS.void (by kernel_rfl) (by kernel_rfl) (by kernel_rfl)) ?_
          clear hK K
          (try simp only [Act.put, List.setIfInBounds_toArray, List.set_cons_zero, List.set_cons_succ, List.getElem_toArray, List.getElem_cons_zero, List.getElem_cons_succ])
          refine wpAnyB_ready (rs := [17]) (by kernel_rfl) (by simp) (AllReadyB.cons rfl (fun K hK => ?_) AllReadyB.nil)
          go_simp
          refine hK.out _ _ (fS.void (by kernel_rfl) (by kernel_rfl) (by kernel_rfl)) ?_
          clear hK K
          (try simp only [Act.put, List.setIfInBounds_toArray, List.set_cons_zero, List.set_cons_succ, List.getElem_toArray, List.getElem_cons_zero, List.getElem_cons_succ])
          refine wpAnyB_ready (rs := [18]) (by kernel_rfl) (by simp) (AllReadyB.cons rfl (fun K hK => ?_) AllReadyB.nil)
          go_simp
          refine hK.out _ _ (fS.void (by kernel_rfl) (by kernel_rfl) (by kernel_rfl)) ?_
          clear hK K
          (try simp only [Act.put, List.setIfInBounds_toArray, List.set_cons_zero, List.set_cons_succ, List.getElem_toArray, List.getElem_cons_zero, List.getElem_cons_succ])
          refine wpAnyB_ready (rs := [19]) (by kernel_rfl) (by simp) (AllReadyB.cons rfl (fun K hK => ?_) AllReadyB.nil)
          go_simp
          refine hK.out _ _ (fS.void (by kernel_rfl) (by kernel_rfl) (by kernel_rfl)) ?_
          clear hK K
          (try simp only [Act.put, List.setIfInBounds_toArray, List.set_cons_zero, List.set_cons_succ, List.getElem_toArray, List.getElem_cons_zero, List.getElem_cons_succ])
          refine wpAnyB_ready (rs := [20]) (by kernel_rfl) (by simp) (AllReadyB.cons rfl (fun K hK => ?_) AllReadyB.nil)
          go_simp
          refine hK.out _ _ (fS.void (by kernel_rfl) (by kernel_rfl) (by kernel_rfl)) ?_
          clear hK K
          (try simp only [Act.put, List.setIfInBounds_toArray, List.set_cons_zero, List.set_cons_succ, List.getElem_toArray, List.getElem_cons_zero, List.getElem_cons_succ])
          refine wpAnyB_done (by kernel_rfl) ?_ _
          refine NoPanic.normal ?_
          go_wp2_with fail
          go_meet
          exact ⟨p1, c1, u1, c2, HF6.out, HZ6.out⟩
      · skip
        go_simp
        refine hK.out _ _ (HSL.out _ _ (by repeat (first | with_reducible exact RowKit.Below.refl _ _ | with_reducible refine below_al ?_ | with_reducible refine below_dr ?_))) ?_
        clear hK K
        (try simp only [Act.put, List.setIfInBounds_toArray, List.set_cons_zero, List.set_cons_succ, List.getElem_toArray, List.getElem_cons_zero, List.getElem_cons_succ])
        refine wpAnyB_ready (rs := [7]) (by kernel_rfl) (by simp) (AllReadyB.cons rfl (fun K hK => ?_) AllReadyB.nil)
        go_simp
        refine hK.out _ _ (HSL.out _ _ (by repeat (first | with_reducible exact RowKit.Below.refl _ _ | with_reducible refine below_al ?_ | with_reducible refine below_dr ?_))) ?_
        clear hK K
        (try simp only [Act.put, List.setIfInBounds_toArray, List.set_cons_zero, List.set_cons_succ, List.getElem_toArray, List.getElem_cons_zero, List.getElem_cons_succ])
        refine wpAnyB_ready (rs := [8]) (by kernel_rfl) (by simp) (AllReadyB.cons rfl (fun K hK => ?_) AllReadyB.nil)
        refine step_of_list rfl fun Q' hQ => ?_
        refine wp_appB (B := B) (cs := fourV (z0, z1, z2, z3)) (y := ((z0, z1, z2, z3) : Four)) (xs := s.pages) rfl rfl Try.underlying22 info4 (by decide) (by decide) rfl rfl (by first | exact H28a.out | exact H28b.out | exact H28c.out) (HPO.out _ (by repeat (first | with_reducible exact RowKit.Below.refl _ _ | with_reducible refine below_al ?_ | with_reducible refine below_dr ?_))).1 (HCL.out _) (by rw [HLEN.out.1]; unfold maxLen; omega) (by rw [HLEN.out.1]; omega) (HPO.out _ (by repeat (first | with_reducible exact RowKit.Below.refl _ _ | with_reducible refine below_al ?_ | with_reducible refine below_dr ?_))).2 fun v5 w5 ho5 hg5 hst5 => ?_
        (obtain ⟨p1, c1, rfl, hm5, hz5, hub⟩ := HMID.out _ w5 v5 (by repeat (first | with_reducible exact RowKit.Below.refl _ _ | with_reducible refine below_al ?_ | with_reducible refine below_dr ?_)) ho5 hg5 hst5)
        have HM5 := Lib.hid hm5; have HZ5 := Lib.hid hz5; have yy1 := hm5.box.cell (j := 1) rfl; have hgl5 := hm5.box.lt
        (first | (have HUB := Lib.hid (hub _ HLE.out HU2.out)) | (have HUB := Lib.hid (hub _ (Nat.le_refl _) HU3.out)) | skip)
        refine (hQ _ _).2 ?_
        clear hQ Q' ho5 hg5 hst5 hm5 hz5 hub
        refine hK.out _ _ (HSM.out _ w5 _ _ _ HM5.out HZ5.out (by repeat (first | with_reducible exact RowKit.Below.refl _ _ | with_reducible refine below_al ?_))) ?_
        clear hK K
        (try simp only [Act.put, List.setIfInBounds_toArray, List.set_cons_zero, List.set_cons_succ, List.getElem_toArray, List.getElem_cons_zero, List.getElem_cons_succ])
        refine wpAnyB_ready (rs := [14]) (by kernel_rfl) (by simp) (AllReadyB.cons rfl (fun K hK => ?_) AllReadyB.nil)
        refine step_of_list rfl fun Q' hQ => ?_
        refine wp_appB (B := B) (cs := [.int .i64 0]) (y := (0 : Int)) (xs := s.uses) rfl rfl Try.underlying23 (show _ = some (some _, Rep.sz Int, _) from Try.info3) (by decide) (by decide) rfl rfl (by first | exact HUB.out | exact blk_new' (cs := [.int .i64 0]) rfl) (HUO.out w5 _ _ _ HM5.out (by repeat (first | with_reducible exact RowKit.Below.refl _ _ | with_reducible refine below_al ?_))).1 ⟨rfl, by unfold I64; omega⟩ (by rw [HLEN.out.2]; unfold maxLen; omega) (by rw [HLEN.out.2]; omega) (HUO.out w5 _ _ _ HM5.out (by repeat (first | with_reducible exact RowKit.Below.refl _ _ | with_reducible refine below_al ?_))).2 fun v6 w6 ho6 hg6 hst6 => ?_
        (obtain ⟨u1, c2, rfl, hb6, hf6, hz6⟩ := HEND.out w5 _ w6 p1 c1 v6 HM5.out HZ5.out (by repeat (first | with_reducible exact RowKit.Below.refl _ _ | with_reducible refine below_al ?_)) ho6 hg6 hst6)
        have s0 := hb6.cell (j := 0) rfl; have s1 := hb6.cell (j := 1) rfl; have sf0 := hb6.frozen 0; have sf1 := hb6.frozen 1
        have HF6 := Lib.hid hf6; have HZ6 := Lib.hid hz6
        refine (hQ _ _).2 ?_
        clear hQ Q' ho6 hg6 hst6 hb6 hf6 hz6
        refine hK.out _ _ (fS.void (by kernel_rfl) (by kernel_rfl) (by kernel_rfl)) ?_
        clear hK K
        (try simp only [Act.put, List.setIfInBounds_toArray, List.set_cons_zero, List.set_cons_succ, List.getElem_toArray, List.getElem_cons_zero, List.getElem_cons_succ])
        refine wpAnyB_ready (rs := [15]) (by kernel_rfl) (by simp) (AllReadyB.cons rfl (fun K hK => ?_) AllReadyB.nil)
        go_simp
        refine hK.out _ _ (fS.void (by kernel_rfl) (by kernel_rfl) (by kernel_rfl)) ?_
        clear hK K
        (try simp only [Act.put, List.setIfInBounds_toArray, List.set_cons_zero, List.set_cons_succ, List.getElem_toArray, List.getElem_cons_zero, List.getElem_cons_succ])
        refine wpAnyB_ready (rs := [16]) (by kernel_rfl) (by simp) (AllReadyB.cons rfl (fun K hK => ?_) AllReadyB.nil)
        go_simp
        refine hK.out _ _ (fS.void (by kernel_rfl) (by kernel_rfl) (by kernel_rfl)) ?_
        clear hK K
        (try simp only [Act.put, List.setIfInBounds_toArray, List.set_cons_zero, List.set_cons_succ, List.getElem_toArray, List.getElem_cons_zero, List.getElem_cons_succ])
        refine wpAnyB_ready (rs := [17]) (by kernel_rfl) (by simp) (AllReadyB.cons rfl (fun K hK => ?_) AllReadyB.nil)
        go_simp
        refine hK.out _ _ (fS.void (by kernel_rfl) (by kernel_rfl) (by kernel_rfl)) ?_
        clear hK K
        (try simp only [Act.put, List.setIfInBounds_toArray, List.set_cons_zero, List.set_cons_succ, List.getElem_toArray, List.getElem_cons_zero, List.getElem_cons_succ])
        refine wpAnyB_ready (rs := [18]) (by kernel_rfl) (by simp) (AllReadyB.cons rfl (fun K hK => ?_) AllReadyB.nil)
        go_simp
        refine hK.out _ _ (fS.void (by kernel_rfl) (by kernel_rfl) (by kernel_rfl)) ?_
        clear hK K
        (try simp only [Act.put, List.setIfInBounds_toArray, List.set_cons_zero, List.set_cons_succ, List.getElem_toArray, List.getElem_cons_zero, List.getElem_cons_succ])
        refine wpAnyB_ready (rs := [19]) (by kernel_rfl) (by simp) (AllReadyB.cons rfl (fun K hK => ?_) AllReadyB.nil)
        go_simp
        refine hK.out _ _ (fS.void (by kernel_rfl) (by kernel_rfl) (by kernel_rfl)) ?_
        clear hK K
        (try simp only [Act.put, List.setIfInBounds_toArray, List.set_cons_zero, List.set_cons_succ, List.getElem_toArray, List.getElem_cons_zero, List.getElem_cons_succ])
        refine wpAnyB_ready (rs := [20]) (by kernel_rfl) (by simp) (AllReadyB.cons rfl (fun K hK => ?_) AllReadyB.nil)
        go_simp
        refine hK.out _ _ (fS.void (by kernel_rfl) (by kernel_rfl) (by kernel_rfl)) ?_
        clear hK K
        (try simp only [Act.put, List.setIfInBounds_toArray, List.set_cons_zero, List.set_cons_succ, List.getElem_toArray, List.getElem_cons_zero, List.getElem_cons_succ])
        refine wpAnyB_done (by kernel_rfl) ?_ _
        refine NoPanic.normal ?_
        go_wp2_with fail
        go_meet
        exact ⟨p1, c1, u1, c2, HF6.out, HZ6.out⟩
    case rest =>
      obtain ⟨p1, c1, u1, c2, hf, hz⟩ := hcut
      obtain ⟨m2, hm2⟩ : ∃ m2, m2 = m + 1 := ⟨_, rfl⟩
      rw [← hm2] at hf
      have hmz : (s.pages ++ [(z0, z1, z2, z3)])[m]? = some (z0, z1, z2, z3) := by rw [HM.out, List.getElem?_append_right (Nat.le_refl _), Nat.sub_self]; rfl
      obtain ⟨gp, cp, hv, -, hgp, ⟨c0, c1', c2', c3⟩, hfz⟩ := four_own_at hf.parts.pages hmz
      injection hv with hv1 hv2 hv3
      subst hv1 hv3
      have hset : (s.pages ++ [(z0, z1, z2, z3)]).set m (z0, z1, z2, z3) = s.pages ++ [(z0, z1, z2, z3)] := by rw [HM.out, List.set_append_right _ _ (Nat.le_refl _), Nat.sub_self]; rfl
      have HST : Hid (FreshSt w (((((wc.drew).setCell ⟨gp, m * 4, none⟩ (.int .i64 z0)).setCell ⟨gp, m * 4 + 1, none⟩ (.int .i64 z1)).setCell ⟨gp, m * 4 + 2, none⟩ (.int .i64 z2)).setCell ⟨gp, m * 4 + 3, none⟩ (.int .i64 z3)) g B (.slice p0 m pc) (.slice u0 m uc) vR hs ⟨s.pages ++ [(z0, z1, z2, z3)], s.uses ++ [0], s.roots⟩ (.slice (some ⟨gp, 0, none⟩) m2 c1) (.slice u1 m2 c2)) := by
        have h := hf.drew.put (y := (z0, z1, z2, z3)) rfl hmz HP.out.1 HP.out.2.1 HP.out.2.2.1 HP.out.2.2.2
        rw [hset] at h
        exact h
      have y0 := hf.box.cell (j := 0) rfl; have y1 := hf.box.cell (j := 1) rfl
      have t0 := hz.cell (j := 0) rfl; have t1 := hz.cell (j := 1) rfl; have t2 := hz.cell (j := 2) rfl; have t3 := hz.cell (j := 3) rfl
      have f0 := hfz (m * 4); have f1 := hfz (m * 4 + 1); have f2 := hfz (m * 4 + 2); have f3 := hfz (m * 4 + 3)
      have hml : m < m2 := by omega
      clear hfz hset hmz hf hz hv2 HM0 hm2
      go_upto_region 7 with fail
      go_still_tail 7, (by kernel_rfl)
      change wpList _ _ _ _ _ wc.drew
      go_wp2_with fail
      go_ret
      exact ⟨by rw [HE.out.1]; rfl, _, _, by rw [HE.out.2.1, HE.out.2.2]; exact HST.out⟩
end Go.Proofs.Ytjlnaiiajlahgaa.pag
