/- The law HuntTells, walked. -/
import Derived.Test.YtfdpannanpipdaaHuntLaw1
set_option linter.unusedVariables false
set_option linter.unusedSimpArgs false
namespace Go.Proofs.Ytfdpannanpipdaa.hunt
open Go.Bk Go.RowKit slice

set_option maxRecDepth 100000 in
set_option maxHeartbeats 4000000 in
theorem hunt_path6 {W : World} {a a2 a3 : Option Addr} {c c2 c3 m0 m2 m3 : Nat} {bad : Int} {nn : Bool} {l : List Api.DDep} {good : List Int} {tr : List Bool} (hl : Arr (· < W.heap.size) W a l) (hl2 : Arr (· < W.heap.size) W a2 good) (hl3 : Arr (· < W.heap.size) W a3 tr)
    (hm0 : l.length = m0) (hm2 : good.length = m2) (hm3 : tr.length = m3) (hc : m0 ≤ c) (hc2 : m2 ≤ c2) (hnil2 : a2 = none → c2 = 0) (hbad : I64 bad) (h200 : 200 < m0) (h5 : 5 < m2) :
    Calls Try.prog 6 #[.slice a m0 c, .int .i64 bad, .slice a2 m2 c2, .slice a3 m3 c3, .bool nn] W fun e W' => e = .returned (.bool true) ∧ Below W.heap.size W W' := by
  obtain ⟨L, hL⟩ : ∃ L, L = l := ⟨_, rfl⟩
  subst hL
  have HN := Lib.hid hm0
  have HLA : Hid (∀ W', Below W.heap.size W W' → Arr (· < W.heap.size) W' a L) := fun W' hW => hl.keep (fun b hb => hW.block b hb)
  have h200' : decide ((m0 : Int) ≤ 200) = false := by simp; omega
  have HLG : Hid (200 < L.length) := by show _ < _; rw [hm0]; exact h200
  clear hm0
  obtain ⟨G, hG⟩ : ∃ G, G = good.take 5 := ⟨_, rfl⟩
  have HN2 : Hid (G.length = 5) := by show _ = _; rw [hG, List.length_take, hm2]; omega
  have HGA : Hid (∀ W', Below W.heap.size W W' → Arr (· < W.heap.size) W' a2 G) := fun W' hW => by rw [hG]; exact Arr.take (hl2.keep (fun b hb => hW.block b hb)) 5
  have h5' : decide ((5 : Int) < (m2 : Int)) = true := by simp; omega
  have hn2m : 5 ≤ 1000 := by omega
  clear hG hm2
  have HN3 := Lib.hid hm3
  have HTA : Hid (∀ W', Below W.heap.size W W' → Arr (· < W.heap.size) W' a3 tr) := fun W' hW => hl3.keep (fun b hb => hW.block b hb)
  have HLT : Hid (∀ W', Below W.heap.size W W' → ∀ b, b < W.heap.size → b < W'.heap.size) := fun W' hW b hb => Nat.lt_of_lt_of_le hb hW.size
  obtain ⟨E, hE⟩ : ∃ E, huntErr L bad G = E := ⟨_, rfl⟩
  obtain ⟨P, hP⟩ : ∃ P, pickOf L bad G = P := ⟨_, rfl⟩
  obtain ⟨ns, hns⟩ : ∃ ns, (susOf L bad G).length = ns := ⟨_, rfl⟩
  have HE := Lib.hid hE; have HP := Lib.hid hP; have HNS := Lib.hid hns
  clear hm3 hl hl2 hl3 hE hP hns
  go_enter Try.func6, Try.ntmps6
  go_wp2_with fail
  have hW0 : Below W.heap.size W (W.alloc (.cells #[.slice a3 m3 c3] 61)) := (Below.refl _ _).alloc (Nat.le_refl _) _
  have hT0 := (blk_new W [.slice a3 m3 c3] 61).cell0
  have hS0 := (blk_new W [.slice a3 m3 c3] 61).lt
  obtain ⟨w0, hw0⟩ : ∃ w0, W.alloc (.cells #[.slice a3 m3 c3] 61) = w0 := ⟨_, rfl⟩
  rw [hw0] at hW0 hT0 hS0 ⊢
  have HB0 := Lib.hid hW0; have HT0 := Lib.hid hT0; have HS0 := Lib.hid hS0
  clear hW0 hT0 hS0 hw0
  refine (ssuspects_any (c := c) (c2 := c2) HN.out HN2.out (HLA.out _ HB0.out) (HGA.out _ HB0.out) (HLT.out _ HB0.out) (HLT.out _ HB0.out) hbad HE.out HNS.out).mono ?_
  rintro e w1 ⟨⟨a4, c4, rfl, har4⟩, hb1⟩
  have HB1 := Lib.hid (HB0.out.trans (hb1.mono HB0.out.size)); have HQ1 := Lib.hid hb1
  have HR4 : Hid (∀ W', Below w1.heap.size w1 W' → Arr (fun _ => True) W' a4 (susOf L bad G)) := fun W' hW => (har4.keep fun b hb => hW.block b hb.2).mono fun _ _ => trivial
  clear hb1 har4
  go_wp2_with fail
  refine (ppick_any (c := c) (c2 := c2) HN.out HN2.out (HLA.out _ HB1.out) (HGA.out _ HB1.out) (HLT.out _ HB1.out) (HLT.out _ HB1.out) hbad HE.out HP.out).mono ?_
  rintro e w2 ⟨rfl, hb2⟩
  have HB2 := Lib.hid (HB1.out.trans (hb2.mono HB1.out.size)); have HQ2 := Lib.hid (HQ1.out.trans (hb2.mono HQ1.out.size)); have HQ12 := Lib.hid hb2
  clear hb2
  by_cases hE0 : E = 0
  · have := huntErr_large (bad := bad) (good := G) HLG.out
    rw [HE.out] at this
    omega
  · have hd1 : (E == 0) = false := by simpa using hE0
    have hP1 : P = -1 := by rw [← HP.out]; exact pickOf_bad (by rw [HE.out]; exact hE0)
    have hso : susOf L bad G = [] := susOf_bad (by rw [HE.out]; exact hE0)
    have hns0 : ns = 0 := by rw [← HNS.out, hso]; rfl
    subst hP1 hns0
    rw [hso] at HR4
    cases nn with
    | true =>
      go_wp2_with fail
      refine (hunt_bad (c := c) (c2 := c2) HN.out HN2.out (HLA.out _ HB2.out) (HGA.out _ HB2.out) (HLT.out _ HB2.out) (HLT.out _ HB2.out) hbad HE.out hE0).mono ?_
      rintro e w3 ⟨rfl, hb3⟩
      have HB3 := Lib.hid (HB2.out.trans (hb3.mono HB2.out.size)); have HQ3 := Lib.hid (HQ12.out.trans (hb3.mono HQ12.out.size))
      clear hb3
      go_wp2_with fail
      refine (rhuntErr_any (c := c) (c2 := c2) HN.out HN2.out (HLA.out _ HB3.out) (HGA.out _ HB3.out) (HLT.out _ HB3.out) (HLT.out _ HB3.out) hnil2 hbad HE.out (by omega)).mono ?_
      rintro e w4 ⟨rfl, hb4⟩
      have HB4 := Lib.hid (HB3.out.trans (hb4.mono HB3.out.size)); have HQ4 := Lib.hid (HQ3.out.trans (hb4.mono HQ3.out.size))
      clear hb4
      go_wp2_with fail
      refine (same_nil rfl (HR4.out _ HQ4.out) (Arr.nil (fun _ => True) _ none)).mono ?_
      rintro e w5 ⟨rfl, hq5⟩
      have HB5 := Lib.hid (HB4.out.trans (hq5.below _))
      clear hq5
      go_wp2_with fail
      go_ret
      exact ⟨by simp, HB5.out⟩
    | false =>
      go_wp2_with fail
      refine (hunt_bad (c := c) (c2 := c2) HN.out HN2.out (HLA.out _ HB2.out) (HGA.out _ HB2.out) (HLT.out _ HB2.out) (HLT.out _ HB2.out) hbad HE.out hE0).mono ?_
      rintro e w3 ⟨rfl, hb3⟩
      have HB3 := Lib.hid (HB2.out.trans (hb3.mono HB2.out.size)); have HQ3 := Lib.hid (HQ12.out.trans (hb3.mono HQ12.out.size))
      clear hb3
      go_wp2_with fail
      refine (rhuntErr_any (c := c) (c2 := c2) HN.out HN2.out (HLA.out _ HB3.out) (HGA.out _ HB3.out) (HLT.out _ HB3.out) (HLT.out _ HB3.out) hnil2 hbad HE.out (by omega)).mono ?_
      rintro e w4 ⟨rfl, hb4⟩
      have HB4 := Lib.hid (HB3.out.trans (hb4.mono HB3.out.size)); have HQ4 := Lib.hid (HQ3.out.trans (hb4.mono HQ3.out.size))
      clear hb4
      go_wp2_with fail
      refine (same_nil rfl (HR4.out _ HQ4.out) (Arr.nil (fun _ => True) _ none)).mono ?_
      rintro e w5 ⟨rfl, hq5⟩
      have HB5 := Lib.hid (HB4.out.trans (hq5.below _))
      clear hq5
      go_wp2_with fail
      go_ret
      exact ⟨by simp, HB5.out⟩
end Go.Proofs.Ytfdpannanpipdaa.hunt
