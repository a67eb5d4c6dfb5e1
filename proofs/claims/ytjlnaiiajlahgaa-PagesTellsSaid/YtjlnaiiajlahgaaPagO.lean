/- PagesTells: a store of one's own: walked. -/
import Derived.Test.YtjlnaiiajlahgaaPagN
import Derived.Test.YtjlnaiiajlahgaaSteps
import Derived.Deep.DeepCutAuto
import Derived.Deep.RegionHeld3
set_option linter.unusedVariables false
set_option linter.unusedSimpArgs false
namespace Go.Proofs.Ytjlnaiiajlahgaa.pag
open Go.Bk Go.RowKit

theorem below_call {w W w' : World} (h : RowKit.Below w.heap.size w W) (hb : RowKit.Below W.heap.size W w') : RowKit.Below w.heap.size w w' := h.trans (hb.mono h.size)
theorem below_al {w W : World} {o : Obj} (h : RowKit.Below w.heap.size w W) : RowKit.Below w.heap.size w (W.alloc o) := h.alloc h.size o
theorem below_dr {w W : World} (h : RowKit.Below w.heap.size w W) : RowKit.Below w.heap.size w W.drew := h.drew
theorem below_sc {w W : World} {g j : Nat} {v : Value} (h : RowKit.Below w.heap.size w W) (hg : w.heap.size ≤ g) : RowKit.Below w.heap.size w (W.setCell ⟨g, j, none⟩ v) := h.setCell (p := ⟨g, j, none⟩) hg _
theorem blk_al {W : World} {o : Obj} {g : Nat} {e : TypeId} {cs : List Value} (h : Blk W g e cs) : Blk (W.alloc o) g e cs := h.keep (Below.heap_alloc _ _ _ h.lt)
theorem blk_dr {W : World} {g : Nat} {e : TypeId} {cs : List Value} (h : Blk W g e cs) : Blk W.drew g e cs := h.keep rfl
theorem blk_call {W w' : World} {g : Nat} {e : TypeId} {cs : List Value} (hb : RowKit.Below W.heap.size W w') (h : Blk W g e cs) : Blk w' g e cs := h.keep (hb.block g h.lt)
section
variable {α : Type} [Rep α] {W w' : World} {B : Nat} {e : TypeId} {v : Value} {xs : List α}
theorem own_al {o : Obj} (h : Go.Bk.Own (fun _ => False) W B e v xs) : Go.Bk.Own (fun _ => False) (W.alloc o) B e v xs := h.alloc o (fun _ h => h.elim)
theorem own_dr (h : Go.Bk.Own (fun _ => False) W B e v xs) : Go.Bk.Own (fun _ => False) W.drew B e v xs := h.below (RowKit.Below.refl W.heap.size W).drew (fun _ h => h.elim)
theorem own_call (hb : RowKit.Below W.heap.size W w') (h : Go.Bk.Own (fun _ => False) W B e v xs) : Go.Bk.Own (fun _ => False) w' B e v xs := h.below hb (fun _ h => h.elim)
end
/-- Two rows of one's own and a box with them. -/
structure Two (w F : World) (g : Nat) (vP vU : Value) (s : Store) : Prop where
  box : Blk F g 26 [vP, vU, .slice none 0 0]
  parts : Parts F w.heap.size vP vU (.slice none 0 0) [] ⟨s.pages, s.uses, []⟩
  off : Off vP vU (.slice none 0 0) [] g
  below : RowKit.Below w.heap.size w F
theorem two_new {w F : World} {g : Nat} {vP vU : Value} {s : Store} (hb : Blk F g 26 [vP, vU, .slice none 0 0]) (hP : Go.Bk.Own (fun _ => False) F w.heap.size 64 vP s.pages) (hU : Go.Bk.Own (fun _ => False) F w.heap.size 3 vU s.uses) (ha : Apart vP vU) (h1 : vP.ownBlock ≠ some g) (h2 : vU.ownBlock ≠ some g) (hbel : RowKit.Below w.heap.size w F) : Two w F g vP vU s :=
  ⟨hb, ⟨hP, hU, RowsOwn.nil _ _ _ _, fun j x hx => by simp at hx, ha, Apart.nil_right _ _ _, Apart.nil_right _ _ _⟩, ⟨h1, h2, (by intro e; cases e), fun j x hx => by simp at hx⟩, hbel⟩
theorem two_set {w F : World} {g : Nat} {vP vU : Value} {s : Store} (hb : Blk F g 26 [.slice none 0 0, .slice none 0 0, .slice none 0 0]) (hP : Go.Bk.Own (fun _ => False) F w.heap.size 64 vP s.pages) (hU : Go.Bk.Own (fun _ => False) F w.heap.size 3 vU s.uses) (ha : Apart vP vU) (h1 : vP.ownBlock ≠ some g) (h2 : vU.ownBlock ≠ some g) (hbel : RowKit.Below w.heap.size w F) (hg : w.heap.size ≤ g) :
    Two w (((F.setCell ⟨g, 0, none⟩ vP).setCell ⟨g, 1, none⟩ vU).setCell ⟨g, 2, none⟩ (.slice none 0 0)) g vP vU s := by
  have hgr : F.grownBy (((F.setCell ⟨g, 0, none⟩ vP).setCell ⟨g, 1, none⟩ vU).setCell ⟨g, 2, none⟩ (.slice none 0 0)) (some g) := grownBy_setCell (grownBy_setCell (grownBy_setCell (World.grownBy.refl _ _) _ _) _ _) _ _
  exact two_new (((hb.set 0 vP).set 1 vU).set 2 _) (hP.keep hgr (.inr h1) (fun _ h => h.elim)) (hU.keep hgr (.inr h2) (fun _ h => h.elim)) ha h1 h2 (hbel.grown hgr hbel.size (fun r hr => by cases hr; exact hg))
def oRel (w : World) (s : Store) (g nR : Nat) (vP vU : Value) (v16 : Value) (w' : World) : Prop :=
  ∃ i : Nat, i ≤ nR ∧ v16 = .int .i64 i ∧ ∃ vR hs, Blk w' g 26 [vP, vU, vR] ∧ Parts w' (w.heap.size + 2) vP vU vR hs ⟨s.pages, s.uses, s.roots.take i⟩ ∧ Off vP vU vR hs g ∧ Blk w' (w.heap.size + 1) 26 [.slice none 0 0, .slice none 0 0, .slice none 0 0] ∧ RowKit.Below w.heap.size w w'
def OwnPost (w : World) (s : Store) (e : Ending) (w' : World) : Prop :=
  ∃ vP vU vR hs, e = .returned (.agg #[vP, vU, vR]) ∧ Parts w' w.heap.size vP vU vR hs s ∧ RowKit.Below w.heap.size w w'

set_option maxRecDepth 100000 in
set_option maxHeartbeats 4000000 in
theorem own_any {S : Nat → Prop} {w : World} {aP aU aR : Option Addr} {nP nU nR cP cU cR : Nat} {s : Store} (h : StAt S w aP aU aR nP nU nR s) (hS : ∀ b, S b → b < w.heap.size) (hP : nP ≤ 1000) (hU : nU ≤ 1000) (hR : nR ≤ 1000) (hnP : aP = none → cP = 0) (hnU : aU = none → cU = 0) (hrow : ∀ r ∈ s.roots, r.length ≤ 1000) :
    Calls Try.prog 32 #[stV aP aU aR nP nU nR cP cU cR] w (OwnPost w s) := by
  have HST : Hid (∀ w', RowKit.Below w.heap.size w w' → StAt S w' aP aU aR nP nU nR s) := fun w' hb => h.below hS hb
  have HSS : Hid (∀ b, S b → b < w.heap.size) := hS
  have HL : Hid (s.pages.length = nP ∧ s.uses.length = nU ∧ s.roots.length = nR) := ⟨h.lenP, h.lenU, h.lenR⟩
  have HROW : Hid (∀ r ∈ s.roots, r.length ≤ 1000) := hrow
  have HCP : Hid (∀ W, RowKit.Below w.heap.size w W → Calls Try.prog 53 #[.slice aP nP cP] W (RetOwn 64 W s.pages)) := fun W hW =>
    clone4_any h.lenP (h.below hS hW).pages hnP (fun b hb => Nat.lt_of_lt_of_le (hS b hb) hW.size) (by omega)
  have HCU : Hid (∀ W, RowKit.Below w.heap.size w W → Calls Try.prog 33 #[.slice aU nU cU] W (RetOwn 3 W s.uses)) := fun W hW =>
    cloneI_any h.lenU (h.below hS hW).uses hnU (fun b hb => Nat.lt_of_lt_of_le (hS b hb) hW.size) (by omega)
  clear h hS hrow
  have HK0 : Hid (Blk ((w.alloc (.cells #[.slice aP nP cP, .slice aU nU cU, .slice aR nR cR] 26)).alloc (.cells #[.slice none 0 0, .slice none 0 0, .slice none 0 0] 26)) w.heap.size 26 [.slice aP nP cP, .slice aU nU cU, .slice aR nR cR] ∧ Blk ((w.alloc (.cells #[.slice aP nP cP, .slice aU nU cU, .slice aR nR cR] 26)).alloc (.cells #[.slice none 0 0, .slice none 0 0, .slice none 0 0] 26)) (w.heap.size + 1) 26 [.slice none 0 0, .slice none 0 0, .slice none 0 0] ∧ RowKit.Below w.heap.size w ((w.alloc (.cells #[.slice aP nP cP, .slice aU nU cU, .slice aR nR cR] 26)).alloc (.cells #[.slice none 0 0, .slice none 0 0, .slice none 0 0] 26))) := by
    have e1 : (w.alloc (.cells #[.slice aP nP cP, .slice aU nU cU, .slice aR nR cR] 26)).heap.size = w.heap.size + 1 := by simp
    have b2 := blk_new (w.alloc (.cells #[.slice aP nP cP, .slice aU nU cU, .slice aR nR cR] 26)) [.slice none 0 0, .slice none 0 0, .slice none 0 0] 26
    have b1 := blk_new w [.slice aP nP cP, .slice aU nU cU, .slice aR nR cR] 26
    rw [e1] at b2
    exact ⟨b1.keep (Below.heap_alloc _ _ _ (by simp)), b2, ((RowKit.Below.refl _ _).alloc (Nat.le_refl _) _).alloc (by simp) _⟩
  go_enter Try.func32, Try.ntmps32
  go_upto_region 1 with fail
  generalize (w.alloc (.cells #[.slice aP nP cP, .slice aU nU cU, .slice aR nR cR] 26)).alloc (.cells #[.slice none 0 0, .slice none 0 0, .slice none 0 0] 26) = w1 at *
  have x0 := HK0.out.1.cell (j := 0) rfl; have x1 := HK0.out.1.cell (j := 1) rfl
  have HB1 := Lib.hid HK0.out.2.2
  have HX : Hid (∀ W, RowKit.Below w1.heap.size w1 W → W.cell? ⟨w.heap.size, 0, none⟩ = some (.slice aP nP cP) ∧ W.cell? ⟨w.heap.size, 1, none⟩ = some (.slice aU nU cU)) := fun W hW => by
    have := HK0.out.1.keep (hW.block _ HK0.out.1.lt)
    exact ⟨this.cell (j := 0) rfl, this.cell (j := 1) rfl⟩
  have HBOX : Hid (∀ W : World, Blk (W.alloc (.cells #[.slice none 0 0, .slice none 0 0, .slice none 0 0] 26)) W.heap.size 26 [.slice none 0 0, .slice none 0 0, .slice none 0 0]) := fun W => blk_new W [.slice none 0 0, .slice none 0 0, .slice none 0 0] 26
  have HBOX1 : Hid (Blk (w1.drew.alloc (.cells #[.slice none 0 0, .slice none 0 0, .slice none 0 0] 26)) w1.heap.size 26 [.slice none 0 0, .slice none 0 0, .slice none 0 0]) := HBOX.out w1.drew
  have HFP : Hid (∀ (W : World) (v : Value) (B : Nat), Go.Bk.Own (fun _ => False) W B 64 v s.pages → ∃ a c, v = .slice a nP c) := fun W v B h => by
    obtain ⟨a, c, e, -⟩ := h.arr
    exact ⟨a, c, by rw [e, HL.out.1]⟩
  have HFU : Hid (∀ (W : World) (v : Value) (B : Nat), Go.Bk.Own (fun _ => False) W B 3 v s.uses → ∃ a c, v = .slice a nU c) := fun W v B h => by
    obtain ⟨a, c, e, -⟩ := h.arr
    exact ⟨a, c, by rw [e, HL.out.2.1]⟩
  have HCP1 : Hid (∀ W, RowKit.Below w1.heap.size w1 W → Calls Try.prog 53 #[.slice aP nP cP] W (fun e w2 => ∃ pa pc, e = .returned (.slice pa nP pc) ∧ Go.Bk.Own (fun _ => False) w2 W.heap.size 64 (.slice pa nP pc) s.pages ∧ RowKit.Below W.heap.size W w2 ∧ RowKit.Below w1.heap.size w1 w2)) := fun W hW =>
    (HCP.out W (HB1.out.trans (hW.mono HB1.out.size))).mono fun e w2 ⟨v, he, ho, hb⟩ => by
      obtain ⟨a, c, rfl⟩ := HFP.out _ _ _ ho
      exact ⟨a, c, he, ho, hb, below_call hW hb⟩
  have HCU1 : Hid (∀ W, RowKit.Below w1.heap.size w1 W → Calls Try.prog 33 #[.slice aU nU cU] W (fun e w2 => ∃ ua uc, e = .returned (.slice ua nU uc) ∧ Go.Bk.Own (fun _ => False) w2 W.heap.size 3 (.slice ua nU uc) s.uses ∧ RowKit.Below W.heap.size W w2 ∧ RowKit.Below w1.heap.size w1 w2)) := fun W hW =>
    (HCU.out W (HB1.out.trans (hW.mono HB1.out.size))).mono fun e w2 ⟨v, he, ho, hb⟩ => by
      obtain ⟨a, c, rfl⟩ := HFU.out _ _ _ ho
      exact ⟨a, c, he, ho, hb, below_call hW hb⟩
  go_cut [3] (fun s3 wz => ∃ (g : Nat) (vP vU : Value), s3 = .pointer (some ⟨g, 0, none⟩) ∧ Two w1 wz g vP vU s ∧ w1.heap.size ≤ g)
  case first =>
    go_region_held3 (fun w' => w'.cell? ⟨w.heap.size, 0, none⟩ = some (.slice aP nP cP) ∧ w'.cell? ⟨w.heap.size, 1, none⟩ = some (.slice aU nU cU)) (exact HX.out _ (by repeat (first | with_reducible refine below_sc ?_ (by first | exact Nat.le_refl _ | exact HBP.out.size | exact HBU.out.size) | with_reducible exact RowKit.Below.refl _ _ | with_reducible exact HBP.out | with_reducible exact HBU.out | with_reducible refine below_al ?_ | with_reducible refine below_dr ?_)))
      (first
        | (go_at_call 53
           refine (HCP1.out _ (by repeat (first | with_reducible exact RowKit.Below.refl _ _ | with_reducible exact HBP.out | with_reducible exact HBU.out | with_reducible refine below_al ?_ | with_reducible refine below_dr ?_))).mono ?_
           rintro e w2 ⟨pa, pc, rfl, hoP, hbP, hbP1⟩
           have HBP := Lib.hid hbP1
           have HOP := Lib.hid hoP
           have HBPc := Lib.hid hbP
           (first
             | (have hkb := blk_call hbP HBOX1.out; have c0 := hkb.cell (j := 0) rfl; have c1 := hkb.cell (j := 1) rfl; have c2 := hkb.cell (j := 2) rfl; have f0 := hkb.frozen 0; have f1 := hkb.frozen 1; have f2 := hkb.frozen 2; have HKB := Lib.hid hkb; have hlk := hkb.lt; clear hkb)
             | (have hkb := blk_call hbP (HBOX.out w3); have c0 := hkb.cell (j := 0) rfl; have c1 := hkb.cell (j := 1) rfl; have c2 := hkb.cell (j := 2) rfl; have f0 := hkb.frozen 0; have f1 := hkb.frozen 1; have f2 := hkb.frozen 2; have HKB := Lib.hid hkb; have hlk := hkb.lt; clear hkb)
             | (have hkb := blk_call hbP HKB.out; clear c0 c1 c2 f0 f1 f2 HKB hlk; have c0 := hkb.cell (j := 0) rfl; have c1 := hkb.cell (j := 1) rfl; have c2 := hkb.cell (j := 2) rfl; have f0 := hkb.frozen 0; have f1 := hkb.frozen 1; have f2 := hkb.frozen 2; have HKB := Lib.hid hkb; have hlk := hkb.lt; clear hkb)
             | skip)
           clear hoP hbP hbP1)
        | (go_at_call 33
           refine (HCU1.out _ (by repeat (first | with_reducible exact RowKit.Below.refl _ _ | with_reducible exact HBP.out | with_reducible exact HBU.out | with_reducible refine below_al ?_ | with_reducible refine below_dr ?_))).mono ?_
           rintro e w3 ⟨ua, uc, rfl, hoU, hbU, hbU1⟩
           have HBU := Lib.hid hbU1
           have HOU := Lib.hid hoU
           have HBUc := Lib.hid hbU
           (first
             | (have hkb := blk_call hbU HBOX1.out; have c0 := hkb.cell (j := 0) rfl; have c1 := hkb.cell (j := 1) rfl; have c2 := hkb.cell (j := 2) rfl; have f0 := hkb.frozen 0; have f1 := hkb.frozen 1; have f2 := hkb.frozen 2; have HKB := Lib.hid hkb; have hlk := hkb.lt; clear hkb)
             | (have hkb := blk_call hbU (HBOX.out w2); have c0 := hkb.cell (j := 0) rfl; have c1 := hkb.cell (j := 1) rfl; have c2 := hkb.cell (j := 2) rfl; have f0 := hkb.frozen 0; have f1 := hkb.frozen 1; have f2 := hkb.frozen 2; have HKB := Lib.hid hkb; have hlk := hkb.lt; clear hkb)
             | (have hkb := blk_call hbU HKB.out; clear c0 c1 c2 f0 f1 f2 HKB hlk; have c0 := hkb.cell (j := 0) rfl; have c1 := hkb.cell (j := 1) rfl; have c2 := hkb.cell (j := 2) rfl; have f0 := hkb.frozen 0; have f1 := hkb.frozen 1; have f2 := hkb.frozen 2; have HKB := Lib.hid hkb; have hlk := hkb.lt; clear hkb)
             | skip)
           clear hoU hbU hbU1))
    all_goals go_wp2_with fail
    all_goals go_meet
    all_goals
      have hs2 : w1.heap.size ≤ w2.heap.size := HBP.out.size
      have hs3 : w1.heap.size ≤ w3.heap.size := HBU.out.size
      have hzU := HBUc.out.size
      have hzP := HBPc.out.size
      have hltP := HOP.out.lt
      have hltU := HOU.out.lt
    · have hP3 := own_call HBUc.out HOP.out
      have hap : Apart (.slice pa nP pc) (.slice ua nU uc) := fun k h1 h2 => by have := (hltP k h1).2; have := (hltU k h2).1; omega
      exact ⟨w3.heap.size, _, _, rfl, two_new (blk_new w3 [.slice pa nP pc, .slice ua nU uc, .slice none 0 0] _) (own_al (own_base hP3 (Nat.le_refl _))) (own_al (own_base HOU.out hs2)) hap (fun e => by have := (hP3.lt _ e).2; omega) (fun e => by have := (hltU _ e).2; omega) (below_al HBU.out), hs3⟩
    · have hP3 := own_call HBUc.out (own_al HOP.out)
      have hap : Apart (.slice pa nP pc) (.slice ua nU uc) := fun k h1 h2 => by have := (hltP k h1).2; have := (hltU k h2).1; simp at this; omega
      exact ⟨w2.heap.size, _, _, rfl, two_set HKB.out (own_base hP3 (Nat.le_refl _)) (own_base HOU.out (by simp; omega)) hap (fun e => by have := (hltP _ e).2; omega) (fun e => by have := (hltU _ e).1; simp at this; omega) HBU.out hs2, hs2⟩
    · have hP3 := own_call HBUc.out HOP.out
      have hap : Apart (.slice pa nP pc) (.slice ua nU uc) := fun k h1 h2 => by have := (hltP k h1).2; have := (hltU k h2).1; omega
      have hdr : (w1.alloc (.cells #[.slice none 0 0, .slice none 0 0, .slice none 0 0] 26)).drew.heap.size = w1.heap.size + 1 := by show (w1.alloc _).heap.size = _; simp
      rw [hdr] at hzP hltP
      exact ⟨w1.heap.size, _, _, rfl, two_set HKB.out (own_base hP3 (by rw [hdr]; omega)) (own_base HOU.out hs2) hap (fun e => by have := (hltP _ e).1; omega) (fun e => by have := (hltU _ e).1; omega) HBU.out (Nat.le_refl _), Nat.le_refl _⟩
  case rest =>
    obtain ⟨g, vP, vU, rfl, htwo, hgw⟩ := hcut
    clear HX HBOX HBOX1 HCP HCU HCP1 HCU1 x0 x1
    have HG : Hid (w.heap.size + 2 ≤ g) := by have := HK0.out.2.1.lt; show _ ≤ _; omega
    have HR0 : Hid (oRel w s g nR vP vU (.int .i64 (0 : Nat)) wc) :=
      ⟨0, Nat.zero_le _, rfl, _, _, htwo.box, htwo.parts.base (by have := HK0.out.2.1.lt; omega), htwo.off, HK0.out.2.1.keep (htwo.below.block _ HK0.out.2.1.lt), HB1.out.trans (htwo.below.mono HB1.out.size)⟩
    have hx2 := (HK0.out.1.keep (htwo.below.block _ HK0.out.1.lt)).cell (j := 2) rfl
    obtain ⟨pa, pc, rfl⟩ := HFP.out _ _ _ htwo.parts.pages
    obtain ⟨ua, uc, rfl⟩ := HFU.out _ _ _ htwo.parts.uses
    clear htwo HK0 HB1 HFP HFU hgw
    go_wp2_with fail
    go_loopw [16] (fun v w' => oRel w s g nR (.slice pa nP pc) (.slice ua nU uc) v w') (fun i _ => nR - (intOf i).toNat)
    case atStart => exact HR0.out
    case round =>
    clear HR0 hx2
    obtain ⟨i, hi, rfl, vR, hs, hbx, hpt, hoff, hres, hbel⟩ := hrel
    have hti : (s.roots.take i).length = i := by rw [List.length_take, HL.out.2.2]; omega
    obtain ⟨ra, rc, hre, -, -⟩ := hpt.roots.form
    rw [hti] at hre
    subst hre
    have HHL : Hid (hs.length = i) := by show _ = _; rw [hpt.roots.len]; exact hti
    have HBX := Lib.hid hbx; have HPT := Lib.hid hpt; have HOF := Lib.hid hoff; have HRES := Lib.hid hres; have HB := Lib.hid hbel
    by_cases hin : i < nR
    case neg =>
      have hin2 : i = nR := by omega
      subst hin2
      have HPE : Hid (Parts wr (w.heap.size + 2) (.slice pa nP pc) (.slice ua nU uc) (.slice ra i rc) hs s) := by
        have h := hpt
        rw [List.take_of_length_le (by rw [HL.out.2.2]; exact Nat.le_refl _)] at h
        exact h
      have b0 := hbx.cell (j := 0) rfl; have b1 := hbx.cell (j := 1) rfl; have b2 := hbx.cell (j := 2) rfl
      have e0 := hres.cell (j := 0) rfl; have e1 := hres.cell (j := 1) rfl; have e2 := hres.cell (j := 2) rfl
      have f0 := hres.frozen 0; have f1 := hres.frozen 1; have f2 := hres.frozen 2
      have hlt := hres.lt
      have HF : Hid (Blk (((wr.setCell ⟨w.heap.size + 1, 0, none⟩ (.slice pa nP pc)).setCell ⟨w.heap.size + 1, 1, none⟩ (.slice ua nU uc)).setCell ⟨w.heap.size + 1, 2, none⟩ (.slice ra i rc)) (w.heap.size + 1) 26 [.slice pa nP pc, .slice ua nU uc, .slice ra i rc]) := ((hres.set 0 _).set 1 _).set 2 _
      have HGR : Hid (wr.grownBy (((wr.setCell ⟨w.heap.size + 1, 0, none⟩ (.slice pa nP pc)).setCell ⟨w.heap.size + 1, 1, none⟩ (.slice ua nU uc)).setCell ⟨w.heap.size + 1, 2, none⟩ (.slice ra i rc)) (some (w.heap.size + 1))) := grownBy_setCell (grownBy_setCell (grownBy_setCell (World.grownBy.refl _ _) _ _) _ _) _ _
      clear hbx hpt hoff hres hbel
      go_wp2_with fail
      (try simp only [Exit.inBlock, Exit.then])
      refine bodyPost_ret (results_cell_row rfl _ _ _ _ _ _ _ rfl HF.out Try.underlying26 rfl rfl) rfl ?_
      have hh := HPE.out
      exact ⟨_, _, _, _, rfl, (hh.other HGR.out (hh.off (.inl (by omega)))).base (by omega), HB.out.grown HGR.out HB.out.size (fun r hr => by cases hr; omega)⟩
    case pos =>
    obtain ⟨l, hl⟩ : ∃ l, s.roots[i]? = some l := ⟨_, List.getElem?_eq_getElem (by rw [HL.out.2.2]; exact hin)⟩
    obtain ⟨b1, o1, a', c', rfl, hsb, q0, hlc, hn', harr⟩ := row_elem (HST.out _ hbel).roots hl
    have hl1 := HROW.out l (List.mem_of_getElem? hl)
    obtain ⟨m, hm⟩ : ∃ m, m = l.length := ⟨_, rfl⟩
    rw [← hm] at q0 hl1
    have HTK : Hid (s.roots.take (i + 1) = s.roots.take i ++ [l]) := by show _ = _; rw [List.take_add_one, hl]; rfl
    have HCR : Hid (∀ W, RowKit.Below wr.heap.size wr W → Calls Try.prog 33 #[.slice a' m c'] W (fun e w2 => ∃ la lc, e = .returned (.slice la m lc) ∧ Go.Bk.Own (fun _ => False) w2 wr.heap.size 3 (.slice la m lc) l ∧ RowKit.Below wr.heap.size wr w2)) := fun W hW =>
      (cloneI_any hm.symm (harr.keep (fun b hb' => (hW.block b (Nat.lt_of_lt_of_le (HSS.out b hb') hbel.size)))) hn' (fun b hb => Nat.lt_of_lt_of_le (HSS.out b hb) (Nat.le_trans hbel.size hW.size)) (by omega)).mono fun e w2 ⟨v, he, ho, hb⟩ => by
        obtain ⟨a, c, rfl, -⟩ := ho.arr
        exact ⟨a, c, by rw [he, hm], by rw [hm]; exact own_base ho hW.size, below_call hW hb⟩
    have HFR : Hid (∀ (W : World) (v : Value) (B : Nat) (y : Hd), Go.Bk.Own (fun _ => False) W B 23 v (hs ++ [y]) → ∃ a c, v = .slice a (i + 1) c) := fun W v B y h => by
      obtain ⟨a, c, e, -⟩ := h.arr
      exact ⟨a, c, by rw [e, List.length_append, HHL.out]; rfl⟩
    have HONE : Hid (∀ a4 c4, (Value.slice a4 m c4).oneCell' = true) := fun _ _ => rfl
    have x2 := hbx.cell (j := 2) rfl
    have HX2 : Hid (∀ W, RowKit.Below wr.heap.size wr W → W.cell? ⟨g, 2, none⟩ = some (.slice ra i rc)) := fun W hW => (hbx.keep (hW.block _ hbx.lt)).cell (j := 2) rfl
    have HOWN : Hid (∀ W, RowKit.Below wr.heap.size wr W → Go.Bk.Own (fun _ => False) W (w.heap.size + 2) 23 (.slice ra i rc) hs ∧ w.heap.size + 2 ≤ W.heap.size) := fun W hW => ⟨(hpt.roots.below hW).out, by have := hW.size; have := hres.lt; omega⟩
    have HEND : Hid (∀ (w2 w5 : World) (la : Option Addr) (lc : Nat) (ra5 : Option Addr) (rc5 : Nat), RowKit.Below wr.heap.size wr w2 → Go.Bk.Own (fun _ => False) w2 wr.heap.size 3 (.slice la m lc) l →
        Go.Bk.Own (fun _ => False) w5 (w.heap.size + 2) 23 (.slice ra5 (i + 1) rc5) (hs ++ [⟨.slice la m lc, HONE.out la lc⟩]) → w2.grownBy w5 (Value.slice ra i rc).ownBlock → Stay w2 (.slice ra i rc) (.slice ra5 (i + 1) rc5) →
        Blk w5 g 26 [.slice pa nP pc, .slice ua nU uc, .slice ra i rc] ∧ oRel w s g nR (.slice pa nP pc) (.slice ua nU uc) (.int .i64 ((i + 1 : Nat) : Int)) (w5.setCell ⟨g, 2, none⟩ (.slice ra5 (i + 1) rc5))) := fun w2 w5 la lc ra5 rc5 hb ho h5 hg hst => by
      have hbx5 : Blk w5 g 26 [.slice pa nP pc, .slice ua nU uc, .slice ra i rc] := (hbx.keep (hb.block _ hbx.lt)).keep (hg.block g (Nat.lt_of_lt_of_le hbx.lt hb.size) (fun e => hoff.r e.symm))
      have hp5 := hpt.pushNew (x := ⟨.slice la m lc, HONE.out la lc⟩) hb (by have := hres.lt; omega) ho h5 hg hst
      have ho5 : Off (.slice pa nP pc) (.slice ua nU uc) (.slice ra5 (i + 1) rc5) (hs ++ [⟨.slice la m lc, HONE.out la lc⟩]) g := hoff.pushNew hst (Nat.lt_of_lt_of_le hbx.lt hb.size) (fun e => by have := (ho.lt g e).1; have := hbx.lt; omega)
      have hgs : w5.grownBy (w5.setCell ⟨g, 2, none⟩ (.slice ra5 (i + 1) rc5)) (some g) := grownBy_setCell (World.grownBy.refl _ _) _ _
      have hres5 := (hres.keep (hb.block _ hres.lt)).keep (hg.block _ (Nat.lt_of_lt_of_le hres.lt hb.size) (fun e => by have := (hpt.roots.out.lt _ e.symm).1; omega))
      refine ⟨hbx5, i + 1, by omega, rfl, .slice ra5 (i + 1) rc5, _, hbx5.set 2 _, ?_, ho5, hres5.keep (hgs.block _ hres5.lt (fun e => by have := Option.some.inj e; have := HG.out; omega)), ?_⟩
      · rw [HTK.out]
        exact hp5.other hgs ho5
      · have hb5 := (hbel.trans (hb.mono hbel.size)).grown hg (Nat.le_trans hbel.size hb.size) (fun r hr => by have := (hpt.roots.out.lt r hr).1; omega)
        exact hb5.setCell (p := ⟨g, 2, none⟩) (by show w.heap.size ≤ g; have := HG.out; omega) _
    have hlt0 := hbx.lt
    clear hbx hpt hoff hres hbel hl harr hm hn' hsb
    go_upto_region 5 with fail
    have HE33 : Hid (∀ args w, (callFunc 33 args).run Try.prog w = .ok (.enter 33 args) w) := Try.call33
    refine wp_region_noPanic ?_
    go_region_law (first
        | (refine step_call (f := 33) (vs := #[.slice a' m c']) rfl rfl (by simp [Act.eval, Act.put]) HE33.out (HCR.out _ (by repeat (first | with_reducible exact RowKit.Below.refl _ _ | with_reducible refine below_al ?_ | with_reducible refine below_dr ?_))) fun e w2 hp => ?_
           obtain ⟨la, lc, rfl, ho, hb⟩ := hp
           refine ⟨_, rfl, ?_⟩
           have HB2 := Lib.hid hb
           have HO2 := Lib.hid ho
           have y2 := HX2.out w2 hb
           have hlt2 : g < w2.heap.size := Nat.lt_of_lt_of_le hlt0 hb.size
           clear hb ho)
        | (refine step_of_list rfl fun Q' hQ => ?_
           (obtain ⟨how, hsz⟩ := HOWN.out w2 HB2.out)
           refine wp_appHd rfl rfl rfl rfl rfl (by first | rfl | simp) how (HONE.out la lc) (by rw [HHL.out]; omega) hsz fun v5 w5 ho5 hg5 hst5 => ?_
           (obtain ⟨ra5, rc5, rfl⟩ := HFR.out _ _ _ _ ho5)
           (obtain ⟨hbx5, hrel5⟩ := HEND.out w2 w5 la lc ra5 rc5 HB2.out HO2.out ho5 hg5 hst5)
           have HREL := Lib.hid hrel5
           have c2 := hbx5.cell (j := 2) rfl
           have f2 := hbx5.frozen 2
           refine (hQ _ _).2 ?_
           clear hQ Q' ho5 hg5 hst5 hbx5 hrel5 how hsz))
    all_goals refine NoPanic.normal ?_
    all_goals clear HX2 HOWN HEND HCR HONE
    all_goals
      (try simp only [Exit.inBlock, Exit.then])
      go_wp2_with fail
      go_roundw
      case rel =>
        have hh := HREL.out
        have e : (((i + 1 : Nat)) : Int) = (i : Int) + 1 := by omega
        rw [e] at hh
        exact hh
      case measure => simp [intOf]; omega
end Go.Proofs.Ytjlnaiiajlahgaa.pag
