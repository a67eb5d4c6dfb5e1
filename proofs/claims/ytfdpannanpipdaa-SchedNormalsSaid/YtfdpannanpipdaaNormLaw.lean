/- The law SchedNormals, walked. -/
import Derived.Test.YtfdpannanpipdaaNormF
set_option linter.unusedVariables false
set_option linter.unusedSimpArgs false
namespace Go.Proofs.Ytfdpannanpipdaa.norm
open Go.Bk Go.RowKit

theorem rnormal_any {S S2 : Nat → Prop} {w : World} {a a2 : Option Addr} {c c2 n nd nr : Nat} {l : List Int} {dep : List (List Bool)} (hn : l.length = n) (hn2 : dep.length = nd) (h : Arr S w a l) (h2 : Arr S2 w a2 dep) (hS : ∀ b, S b → b < w.heap.size) (hS2 : ∀ b, S2 b → b < w.heap.size) (hnil : a = none → c = 0) (he : depErr l dep = 0) (hr : (normOf l dep).length = nr) :
    Calls Try.prog 58 #[.slice a n c, .slice a2 nd c2] w fun e w' => ∃ a' c', e = .returned (.slice a' nr c') ∧ Arr (fun b => w.heap.size ≤ b ∧ b < w'.heap.size) w' a' (normOf l dep) ∧ Below w.heap.size w w' := by
  rw [← hr]
  rw [normOf_ok he]
  refine (rnormal_ok hn hn2 h h2 hS hS2 hnil he).mono ?_
  rintro e w' ⟨v, hs, rfl, hro, hb⟩
  obtain ⟨ao, co, rfl, -, -⟩ := hro.form
  exact ⟨ao, co, rfl, hro.arr, hb⟩
theorem same_rows_len {S1 S2 : Nat → Prop} {w : World} {a1 a2 : Option Addr} {c1 c2 n : Nat} {xs : List (List Int)} (hn : xs.length = n) (h1 : Arr S1 w a1 xs) (h2 : Arr S2 w a2 xs) :
    Calls Try.prog 59 #[.slice a1 n c1, .slice a2 n c2] w fun e w' => e = .returned (.bool true) ∧ Quiet w w' := (same_rows_any hn hn h1 h2).mono fun e w' ⟨he, hq⟩ => ⟨by rw [he]; simp, hq⟩

set_option maxRecDepth 100000 in
set_option maxHeartbeats 4000000 in
theorem schedNormals_walk (W : World) (args : Array Value) (h : ArgsRead Try.prog W [30, 30, 91] args.toList) :
    Calls Try.prog 9 args W fun e W' => e = .returned (.bool true) ∧ Below W.heap.size W W' := by
  obtain ⟨v0, v1, v2, rfl, r0, r1, r2⟩ := h.three
  obtain ⟨a, l, c, rfl, hc, hnil, hl⟩ := r0.slice Try.underlying30 Try.opens30
  obtain ⟨am, m, cm, rfl, hcm, hnilm, hlm⟩ := r1.slice Try.underlying30 Try.opens30
  obtain ⟨ad, dep, cd, rfl, hcd, hnild, hld⟩ := r2.slice Try.underlying91 Try.opens91
  clear r0 r1 r2 h
  obtain ⟨n, hn⟩ : ∃ n, l.length = n := ⟨_, rfl⟩
  obtain ⟨nm, hnm⟩ : ∃ n, m.length = n := ⟨_, rfl⟩
  obtain ⟨nd, hnd⟩ : ∃ n, dep.length = n := ⟨_, rfl⟩
  rw [hn, hnm, hnd]
  have HA : Hid (∀ W', Below W.heap.size W W' → Arr (· < W.heap.size) W' a l) := fun W' hW => hl.keep (fun b hb => hW.block b hb)
  have HAM : Hid (∀ W', Below W.heap.size W W' → Arr (· < W.heap.size) W' am m) := fun W' hW => hlm.keep (fun b hb => hW.block b hb)
  have HAD : Hid (∀ W', Below W.heap.size W W' → Arr (· < W.heap.size) W' ad dep) := fun W' hW => hld.keep (fun b hb => hW.block b hb)
  have HLT : Hid (∀ W', Below W.heap.size W W' → ∀ b, b < W.heap.size → b < W'.heap.size) := fun W' hW b hb => Nat.lt_of_lt_of_le hb hW.size
  have HN := Lib.hid hn; have HNM := Lib.hid hnm; have HND := Lib.hid hnd
  clear hn hnm hnd hl hlm hld hc hcm hcd hnild
  obtain ⟨n1, hn1⟩ : ∃ k, (normOf l dep).length = k := ⟨_, rfl⟩
  obtain ⟨n2, hn2⟩ : ∃ k, (normOf m dep).length = k := ⟨_, rfl⟩
  have HN1 := Lib.hid hn1; have HN2 := Lib.hid hn2
  obtain ⟨E1, hE1⟩ : ∃ E, depErr l dep = E := ⟨_, rfl⟩
  obtain ⟨E2, hE2⟩ : ∃ E, depErr m dep = E := ⟨_, rfl⟩
  obtain ⟨b, hb⟩ : ∃ b, alikeOf l m dep = b := ⟨_, rfl⟩
  obtain ⟨F, hF⟩ : ∃ F, alikeErr l m dep = F := ⟨_, rfl⟩
  have HE1 := Lib.hid hE1; have HE2 := Lib.hid hE2; have HB := Lib.hid hb; have HF := Lib.hid hF
  clear hn1 hn2 hE1 hE2 hb hF
  go_enter Try.func9, Try.ntmps9
  go_wp2_with fail
  refine (normal_any (c := c) (c2 := cd) HN.out HND.out (HA.out _ (Below.refl _ _)) (HAD.out _ (Below.refl _ _)) (fun b h => h) (fun b h => h) HE1.out HN1.out).mono ?_
  rintro e w1 ⟨a1, c1, rfl, har1, hb1⟩
  have HB1 := Lib.hid hb1
  have HR1 : Hid (∀ W', Below w1.heap.size w1 W' → Arr (fun _ => True) W' a1 (normOf l dep)) := fun W' hW => (har1.keep fun b hb => hW.block b hb.2).mono fun _ _ => trivial
  clear hb1 har1
  go_wp2_with fail
  refine (alike_any (c := c) (c2 := cd) (c3 := cm) HN.out HNM.out HND.out (HA.out _ HB1.out) (HAM.out _ HB1.out) (HAD.out _ HB1.out) (HLT.out _ HB1.out) (HLT.out _ HB1.out) (HLT.out _ HB1.out) HB.out HF.out).mono ?_
  rintro e w2 ⟨rfl, hb2⟩
  have HB2 := Lib.hid (HB1.out.trans (hb2.mono HB1.out.size)); have HB12 := Lib.hid hb2
  clear hb2
  go_wp2_with fail
  refine (depErr_any (c := c) (c2 := cd) HN.out HND.out (HA.out _ HB2.out) (HAD.out _ HB2.out)).mono ?_
  rintro e w3 ⟨rfl, hq3⟩
  rw [HE1.out]
  have HB3 := Lib.hid (HB2.out.trans (hq3.below _)); have HB13 := Lib.hid (HB12.out.trans (hq3.below _))
  clear hq3
  by_cases h1 : E1 = 0
  · subst h1
    go_wp2_with fail
    refine (rnormal_any (c := c) (c2 := cd) HN.out HND.out (HA.out _ HB3.out) (HAD.out _ HB3.out) (HLT.out _ HB3.out) (HLT.out _ HB3.out) hnil HE1.out HN1.out).mono ?_
    rintro e w4 ⟨a4, c4, rfl, har4, hb4⟩
    have HB4 := Lib.hid (HB3.out.trans (hb4.mono HB3.out.size)); have HB14 := Lib.hid (HB13.out.trans (hb4.mono HB13.out.size))
    have HR4 : Hid (∀ W', Below w4.heap.size w4 W' → Arr (fun _ => True) W' a4 (normOf l dep)) := fun W' hW => (har4.keep fun b hb => hW.block b hb.2).mono fun _ _ => trivial
    clear hb4 har4
    go_wp2_with fail
    refine (depErr_any (c := cm) (c2 := cd) HNM.out HND.out (HAM.out _ HB4.out) (HAD.out _ HB4.out)).mono ?_
    rintro e w5 ⟨rfl, hq5⟩
    rw [HE2.out]
    have HB5 := Lib.hid (HB4.out.trans (hq5.below _)); have HB15 := Lib.hid (HB14.out.trans (hq5.below _)); have HB45 := Lib.hid (hq5.below w4.heap.size)
    clear hq5
    have hF2 : F = E2 := by rw [← HF.out, alikeErr, if_pos HE1.out, HE2.out]
    subst hF2
    by_cases h2 : F = 0
    · subst h2
      have hb2 : Hid (b = decide (normOf l dep = normOf m dep)) := by show _ = _; rw [← HB.out, alikeOf, if_pos ⟨HE1.out, HE2.out⟩]
      go_wp2_with fail
      refine (rnormal_any (c := cm) (c2 := cd) HNM.out HND.out (HAM.out _ HB5.out) (HAD.out _ HB5.out) (HLT.out _ HB5.out) (HLT.out _ HB5.out) hnilm HE2.out HN2.out).mono ?_
      rintro e w6 ⟨a6, c6, rfl, har6, hb6⟩
      have HB6 := Lib.hid (HB5.out.trans (hb6.mono HB5.out.size)); have HB16 := Lib.hid (HB15.out.trans (hb6.mono HB15.out.size)); have HB46 := Lib.hid (HB45.out.trans (hb6.mono HB45.out.size))
      have HR6 := Lib.hid har6
      clear hb6 har6
      go_wp2_with fail
      refine (same_rows_any HN1.out HN2.out (HR4.out _ HB46.out) HR6.out).mono ?_
      rintro e w7 ⟨rfl, hq7⟩
      rw [← hb2.out]
      have HB7 := Lib.hid (HB6.out.trans (hq7.below _)); have HB17 := Lib.hid (HB16.out.trans (hq7.below _)); have HB47 := Lib.hid (HB46.out.trans (hq7.below _))
      clear hq7
      go_wp2_with fail
      refine (same_rows_len HN1.out (HR1.out _ HB17.out) (HR4.out _ HB47.out)).mono ?_
      rintro e w8 ⟨rfl, hq8⟩
      have HB8 := Lib.hid (HB7.out.trans (hq8.below _))
      clear hq8
      have hbb : (b == b) = true := by simp
      go_wp2_with fail
      go_ret
      exact ⟨by simp, HB8.out⟩
    · have hd : (F == 0) = false := by simpa using h2
      have hb2 : b = false := by rw [← HB.out, alikeOf, if_neg (fun h => h2 (HE2.out ▸ h.2))]
      subst hb2
      go_wp2_with fail
      refine (same_rows_len HN1.out (HR1.out _ HB15.out) (HR4.out _ HB45.out)).mono ?_
      rintro e w8 ⟨rfl, hq8⟩
      have HB8 := Lib.hid (HB5.out.trans (hq8.below _))
      clear hq8
      go_wp2_with fail
      go_ret
      exact ⟨by simp, HB8.out⟩
  · have hd : (E1 == 0) = false := by simpa using h1
    have hb2 : b = false := by rw [← HB.out, alikeOf, if_neg (fun h => h1 (HE1.out ▸ h.1))]
    have hF2 : F = E1 := by rw [← HF.out, alikeErr, if_neg (by rw [HE1.out]; exact h1), HE1.out]
    subst hb2 hF2
    have hn0 : normOf l dep = [] := normOf_bad (by rw [HE1.out]; exact h1)
    have hn1 : n1 = 0 := by rw [← HN1.out, hn0]; rfl
    subst hn1
    rw [hn0] at HR1 HN1
    go_wp2_with fail
    refine (same_rows_len HN1.out (HR1.out _ HB13.out) (Arr.nil (fun _ => True) _ none)).mono ?_
    rintro e w8 ⟨rfl, hq8⟩
    have HB8 := Lib.hid (HB3.out.trans (hq8.below _))
    clear hq8
    go_wp2_with fail
    go_ret
    exact ⟨by simp, HB8.out⟩
end Go.Proofs.Ytfdpannanpipdaa.norm
