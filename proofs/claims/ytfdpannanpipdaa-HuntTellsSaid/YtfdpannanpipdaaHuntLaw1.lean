/- The law HuntTells, walked. -/
import Derived.Test.YtfdpannanpipdaaHuntF
set_option linter.unusedVariables false
set_option linter.unusedSimpArgs false
namespace Go.Proofs.Ytfdpannanpipdaa.hunt
open Go.Bk Go.RowKit slice

def susRel (w : World) (l : List Api.DDep) (bd : Nat) (gs : List Nat) (n : Nat) (o i : Value) (w' : World) : Prop :=
  ∃ q : Nat, q ≤ n ∧ i = .int .i64 q ∧ Own (fun _ => False) w' w.heap.size 3 o (filt (sus l bd gs) q) ∧ Below w.heap.size w w'
def askRel (w1 : World) (l : List Api.DDep) (tr : Nat → Bool) (st : Nat × List Nat) (b m g p : Value) (w' : World) : Prop :=
  ∃ k : Nat, goes l tr st k ∧ b = .int .i64 ((seq l tr st k).1 : Nat) ∧ Own (fun _ => False) w' w1.heap.size 3 g ((seq l tr st k).2.map Int.ofNat) ∧ m = .int .i64 (k : Nat) ∧ p = .int .i64 (pick l (seq l tr st k).1 (seq l tr st k).2) ∧ Below w1.heap.size w1 w'

set_option maxRecDepth 100000 in
set_option maxHeartbeats 4000000 in
theorem hunt_path1 {W : World} {a a2 a3 : Option Addr} {c c2 c3 m0 m2 m3 : Nat} {bad : Int} {nn : Bool} {l : List Api.DDep} {good : List Int} {tr : List Bool} (hl : Arr (· < W.heap.size) W a l) (hl2 : Arr (· < W.heap.size) W a2 good) (hl3 : Arr (· < W.heap.size) W a3 tr)
    (hm0 : l.length = m0) (hm2 : good.length = m2) (hm3 : tr.length = m3) (hc : m0 ≤ c) (hc2 : m2 ≤ c2) (hnil2 : a2 = none → c2 = 0) (hbad : I64 bad) (h20 : m0 ≤ 20) (h5 : m2 ≤ 5) :
    Calls Try.prog 6 #[.slice a m0 c, .int .i64 bad, .slice a2 m2 c2, .slice a3 m3 c3, .bool nn] W fun e W' => e = .returned (.bool true) ∧ Below W.heap.size W W' := by
  obtain ⟨n, hn⟩ : ∃ n, n = m0 := ⟨_, rfl⟩
  obtain ⟨n2, hn2⟩ : ∃ n2, n2 = m2 := ⟨_, rfl⟩
  obtain ⟨L, hL⟩ : ∃ L, L = l := ⟨_, rfl⟩
  obtain ⟨G, hG⟩ : ∃ G, G = good := ⟨_, rfl⟩
  subst hn hn2 hL hG
  have h20' : decide ((20 : Int) < (n : Int)) = false := by simp; omega
  have h5' : decide ((5 : Int) < (n2 : Int)) = false := by simp; omega
  have hn200 : n ≤ 200 := by omega
  have hn2m : n2 ≤ 1000 := by omega
  have HN := Lib.hid hm0; have HN2 := Lib.hid hm2; have HN3 := Lib.hid hm3
  have HLA : Hid (∀ W', Below W.heap.size W W' → Arr (· < W.heap.size) W' a L) := fun W' hW => hl.keep (fun b hb => hW.block b hb)
  have HGA : Hid (∀ W', Below W.heap.size W W' → Arr (· < W.heap.size) W' a2 G) := fun W' hW => hl2.keep (fun b hb => hW.block b hb)
  have HTA : Hid (∀ W', Below W.heap.size W W' → Arr (· < W.heap.size) W' a3 tr) := fun W' hW => hl3.keep (fun b hb => hW.block b hb)
  have HLT : Hid (∀ W', Below W.heap.size W W' → ∀ b, b < W.heap.size → b < W'.heap.size) := fun W' hW b hb => Nat.lt_of_lt_of_le hb hW.size
  have hsl : ∀ w, (Instr.slice 60 (.slice a n c) none (some (.int .i64 (n : Nat))) none).run Try.prog w = .ok (.slice a n c) w := fun w => run_slice_head (z := 1) Try.underlying60 (by kernel_rfl) a n c n (by omega) w
  have hsl2 : ∀ w, (Instr.slice 30 (.slice a2 n2 c2) none (some (.int .i64 (n2 : Nat))) none).run Try.prog w = .ok (.slice a2 n2 c2) w := fun w => run_slice_head (z := 1) Try.underlying30 (by kernel_rfl) a2 n2 c2 n2 (by omega) w
  obtain ⟨E, hE⟩ : ∃ E, huntErr L bad G = E := ⟨_, rfl⟩
  obtain ⟨P, hP⟩ : ∃ P, pickOf L bad G = P := ⟨_, rfl⟩
  obtain ⟨ns, hns⟩ : ∃ ns, (susOf L bad G).length = ns := ⟨_, rfl⟩
  have HE := Lib.hid hE; have HP := Lib.hid hP; have HNS := Lib.hid hns
  clear hm0 hm2 hm3 hl hl2 hl3 hE hP hns
  go_enter Try.func6, Try.ntmps6
  go_wp2_with fail
  have hW0 : Below W.heap.size W (W.alloc (.cells #[.slice a3 m3 c3] 61)) := (Below.refl _ _).alloc (Nat.le_refl _) _
  have hT0 := (blk_new W [.slice a3 m3 c3] 61).cell0
  have hS0 := (blk_new W [.slice a3 m3 c3] 61).lt
  obtain ⟨w0, hw0⟩ : ∃ w0, W.alloc (.cells #[.slice a3 m3 c3] 61) = w0 := ⟨_, rfl⟩
  rw [hw0] at hW0 hT0 hS0 ⊢
  have HB0 := Lib.hid hW0; have HT0 := Lib.hid hT0; have HS0 := Lib.hid hS0
  clear hW0 hT0 hS0 hw0
  refine (ssuspects_any (c := c) (c2 := c2) HN.out HN2.out (HLA.out _ HB0.out) (HGA.out _ HB0.out) (HLT.out _ HB0.out) (HLT.out _ HB0.out) hbad HE.out HNS.out).mono ?_
  rintro e w1 ⟨⟨a4, c4, rfl, har4⟩, hb1⟩
  have HB1 := Lib.hid (HB0.out.trans (hb1.mono HB0.out.size)); have HQ1 := Lib.hid hb1
  have HR4 : Hid (∀ W', Below w1.heap.size w1 W' → Arr (fun _ => True) W' a4 (susOf L bad G)) := fun W' hW => (har4.keep fun b hb => hW.block b hb.2).mono fun _ _ => trivial
  clear hb1 har4
  go_wp2_with fail
  refine (ppick_any (c := c) (c2 := c2) HN.out HN2.out (HLA.out _ HB1.out) (HGA.out _ HB1.out) (HLT.out _ HB1.out) (HLT.out _ HB1.out) hbad HE.out HP.out).mono ?_
  rintro e w2 ⟨rfl, hb2⟩
  have HB2 := Lib.hid (HB1.out.trans (hb2.mono HB1.out.size)); have HQ2 := Lib.hid (HQ1.out.trans (hb2.mono HQ1.out.size)); have HQ12 := Lib.hid hb2
  clear hb2
  by_cases hE0 : E = 0
  · subst hE0
    have hA := asked_of (errOf_of_hunt HE.out).1
    have hsus0 := (errOf_of_hunt HE.out).2
    have hso := susOf_ok HE.out
    have hpo := pickOf_ok HE.out
    obtain ⟨bd, hbd⟩ : ∃ bd, bad.toNat = bd := ⟨_, rfl⟩
    obtain ⟨gs, hgs⟩ : ∃ gs, G.map Int.toNat = gs := ⟨_, rfl⟩
    rw [hbd, hgs] at hA hsus0 hso hpo
    have hbe := hA.bad
    subst hbe
    have hv := hA.valid
    have hgl := hA.all
    have hblt := hA.lt
    have hGe := hA.good
    rw [HN.out] at hgl hblt
    have hgn : gs.length = n2 := by rw [← hgs, List.length_map, HN2.out]
    have HFN : Hid (Fine L (bd, gs)) := ⟨by rw [HN.out]; exact hblt, by rw [HN.out]; exact hgl, hsus0⟩
    have HASK : Hid (∀ W', Below W.heap.size W W' → Ask W' L gs a a2 n n2) := fun W' hW => ⟨HN.out, hgn, hn200, hv, hgl, ⟨_, HLA.out W' hW, HLT.out W' hW⟩, ⟨_, by rw [← hGe]; exact HGA.out W' hW, HLT.out W' hW⟩⟩
    have HV := Lib.hid hv; have HGL := Lib.hid hgl; have HSO := Lib.hid hso; have HPO : Hid (pick L bd gs = P) := by (show _ = _; rw [← hpo]; exact HP.out)
    have HGE := Lib.hid hGe; have HGN := Lib.hid hgn; have HGS := Lib.hid hgs; have HBD := Lib.hid hbd
    have HNS2 : Hid ((susL L bd gs).length = ns) := by show _ = _; rw [← hso]; exact HNS.out
    have hge := pick_ge L bd gs
    rw [HPO.out] at hge
    obtain ⟨Bv, hBv⟩ : ∃ B, (if P < 0 then 0 else P) = B := ⟨_, rfl⟩
    obtain ⟨Sm, hSm⟩ : ∃ S, decide (0 ≤ P) = S := ⟨_, rfl⟩
    rw [hBv, hSm]
    have HBV := Lib.hid hBv; have HSM := Lib.hid hSm
    clear hSm
    clear hA hsus0 hso hpo hbd hgs hv hgl hGe hgn hBv
    cases nn with
    | true =>
      go_wp2_with fail
      refine (hunt_nil (c := c) (c2 := c2) HN.out HN2.out (HLA.out _ HB2.out) (HGA.out _ HB2.out) (HLT.out _ HB2.out) (HLT.out _ HB2.out) hbad HE.out).mono ?_
      rintro e w3 ⟨rfl, hb3⟩
      have HB3 := Lib.hid (HB2.out.trans (hb3.mono HB2.out.size)); have HQ3 := Lib.hid (HQ12.out.trans (hb3.mono HQ12.out.size))
      clear hb3
      go_wp2_with fail
      refine (rhuntErr_any (c := c) (c2 := c2) HN.out HN2.out (HLA.out _ HB3.out) (HGA.out _ HB3.out) (HLT.out _ HB3.out) (HLT.out _ HB3.out) hnil2 hbad HE.out (by omega)).mono ?_
      rintro e w4 ⟨rfl, hb4⟩
      have HB4 := Lib.hid (HB3.out.trans (hb4.mono HB3.out.size)); have HQ4 := Lib.hid (HQ3.out.trans (hb4.mono HQ3.out.size))
      clear hb4
      obtain ⟨wo, rfl⟩ : ∃ wo : World, wo = w4 := ⟨_, rfl⟩
      go_wp2_with fail
      go_loopw [23, 27] (susRel wo L bd gs n) (fun _ i _ => n - (intOf i).toNat)
      case atStart => exact ⟨0, Nat.zero_le _, rfl, Own.nil _ _ _ _, Below.refl _ _⟩
      case round =>
        obtain ⟨q, hq, rfl, hown, hbw⟩ := hrel
        have HOW := Lib.hid hown; have HBW := Lib.hid hbw
        have HB5 := Lib.hid (HB4.out.trans (hbw.mono HB4.out.size)); have HQ5 := Lib.hid (HQ4.out.trans (hbw.mono HQ4.out.size))
        have hfl := filt_len (sus L bd gs) q
        obtain ⟨fl, hfle⟩ : ∃ k, (filt (sus L bd gs) q).length = k := ⟨_, rfl⟩
        rw [hfle] at hfl
        obtain ⟨ao, co, rfl, -, -, har⟩ := num.own_len hown hfle
        have HFL := Lib.hid hfle
        clear hown hbw hfle
        by_cases hlt : q < n
        · have HIS := Lib.hid (issus_any (c := c) (c2 := c2) (HASK.out _ HB5.out) hlt hblt (by omega))
          clear har
          go_wp2_with fail
          refine HIS.out.mono ?_
          rintro e w5 ⟨rfl, hb5⟩
          have HBW5 := Lib.hid (HBW.out.trans (hb5.mono HBW.out.size))
          have HOW5 := Lib.hid (HOW.out.below hb5 (fun _ h => h.elim))
          have hbs5 : wo.heap.size ≤ w5.heap.size := HBW5.out.size
          clear hb5 HIS
          cases hs : sus L bd gs q with
          | true =>
            have HFS : Hid (filt (sus L bd gs) (q + 1) = filt (sus L bd gs) q ++ [(q : Int)]) := by show _ = _; rw [filt_succ, hs, if_pos rfl]
            have HI : Hid (I64 (q : Int)) := by show I64 _; unfold I64; omega
            clear hs
            go_wp2_with ((at_builtin; with_reducible refine Try.wp_appd30 rfl rfl rfl rfl rfl (by first | rfl | simp) (HOW5.out) (cells_int HI.out) (fun _ h => h.elim) (by (have := HFL.out; omega)) (by exact hbs5) fun v' w' hown' hg' hst' => ?_); have HN1 := Lib.hid hown'; have HN3 := Lib.hid hg'; clear hown' hg' hst')
            go_roundw
            case rel => exact ⟨q + 1, by omega, by go_num, by rw [HFS.out]; exact HN1.out, HBW5.out.grown HN3.out hbs5 (fun k hk => (HOW5.out.lt k hk).1)⟩
            case measure => simp [intOf]; omega
          | false =>
            have HFS : Hid (filt (sus L bd gs) (q + 1) = filt (sus L bd gs) q) := by show _ = _; rw [filt_succ, hs, if_neg (by simp), List.append_nil]
            clear hs
            go_wp2_with fail
            go_roundw
            case rel => exact ⟨q + 1, by omega, by go_num, by rw [HFS.out]; exact HOW5.out, HBW5.out⟩
            case measure => simp [intOf]; omega
        · have HQN : Hid (q = n) := by show _ = _; omega
          have hfs : filt (sus L bd gs) q = susL L bd gs := by unfold susL; rw [HN.out, HQN.out]
          have hfn : fl = ns := by rw [← HFL.out, hfs, HNS2.out]
          subst hfn
          have HRS : Hid (∀ W', Below wr.heap.size wr W' → Arr (fun _ => True) W' ao (susL L bd gs)) := fun W' hW => (by rw [← hfs]; exact (har.keep fun b hb => hW.block b hb.2).mono fun _ _ => trivial)
          clear har hfs HOW
          go_wp2_with fail
          refine (rpick_any (c := c) (c2 := c2) (HASK.out _ HB5.out) hblt (by omega)).mono ?_
          rintro e w6 ⟨rfl, hb6⟩
          rw [HPO.out]
          have HB6 := Lib.hid (HB5.out.trans (hb6.mono HB5.out.size)); have HQ6 := Lib.hid (HQ5.out.trans (hb6.mono HQ5.out.size))
          have HRS6 := Lib.hid (HRS.out _ hb6)
          clear hb6
          go_wp2_with fail
          refine (same_nil HNS2.out (by rw [← HSO.out]; exact HR4.out _ HQ6.out) HRS6.out).mono ?_
          rintro e w7 ⟨rfl, hq7⟩
          have HB7 := Lib.hid (HB6.out.trans (hq7.below _))
          clear hq7
          by_cases hpn : P < 0
          · have hb0 : Bv = 0 := by rw [← HBV.out, if_pos hpn]
            have hs0 : Sm = false := by rw [← HSM.out]; simp; omega
            have hd0 : decide (0 ≤ P) = false := by simp; omega
            subst hb0 hs0
            go_wp2_with fail
            go_ret
            exact ⟨by simp, HB7.out⟩
          · have hb0 : Bv = P := by rw [← HBV.out, if_neg hpn]
            have hs0 : Sm = true := by rw [← HSM.out]; simp; omega
            have hd0 : decide (0 ≤ P) = true := by simp; omega
            subst hb0 hs0
            have hbb : (Bv == Bv) = true := by simp
            go_wp2_with fail
            go_ret
            exact ⟨by simp, HB7.out⟩
    | false =>
      have hen := fun args w => Try.call34 args w
      have HKT : Hid (∀ w', Below w0.heap.size w0 w' → ∀ k : Nat, Calls Try.prog 34 #[.int .i64 (k : Nat), .pointer (some ⟨W.heap.size, 0, none⟩)] w' fun e w'' => e = .returned (.bool (trF tr k)) ∧ Below w'.heap.size w' w'') := fun w' hW k =>
        fnT_any ((hW.cell (p := ⟨W.heap.size, 0, none⟩) HS0.out).trans HT0.out) (HTA.out w' (HB0.out.trans (hW.mono HB0.out.size))) HN3.out
      go_wp2_with fail
      refine (hunt_ok (c := c) (c2 := c2) (tr := trF tr) (F := 34) (caps := #[.pointer (some ⟨W.heap.size, 0, none⟩)]) HN.out HN2.out (HLA.out _ HB2.out) (HGA.out _ HB2.out) hnil2 (HLT.out _ HB2.out) (HLT.out _ HB2.out) hbad HE.out hn2m (fun y w => Try.call34 _ _) (fun k wx _ hbx => HKT.out wx (HQ2.out.trans (hbx.mono HQ2.out.size)) k)).mono ?_
      rintro e w3 ⟨⟨K, hstop, hK200, rfl⟩, hb3⟩
      rw [HBD.out, HGS.out] at hstop ⊢
      have HB3 := Lib.hid (HB2.out.trans (hb3.mono HB2.out.size)); have HQ3 := Lib.hid (HQ12.out.trans (hb3.mono HQ12.out.size)); have HZ3 := Lib.hid (HQ2.out.trans (hb3.mono HQ2.out.size))
      have HSTOP := Lib.hid hstop
      obtain ⟨SB, hSB⟩ : ∃ b, (seq L (trF tr) (bd, gs) K).1 = b := ⟨_, rfl⟩
      rw [hSB]
      have HSB := Lib.hid hSB
      clear hb3 hstop hSB
      go_wp2_with fail
      refine (rhuntErr_any (c := c) (c2 := c2) HN.out HN2.out (HLA.out _ HB3.out) (HGA.out _ HB3.out) (HLT.out _ HB3.out) (HLT.out _ HB3.out) hnil2 hbad HE.out (by omega)).mono ?_
      rintro e w4 ⟨rfl, hb4⟩
      have HB4 := Lib.hid (HB3.out.trans (hb4.mono HB3.out.size)); have HQ4 := Lib.hid (HQ3.out.trans (hb4.mono HQ3.out.size)); have HZ4 := Lib.hid (HZ3.out.trans (hb4.mono HZ3.out.size))
      clear hb4
      obtain ⟨wo, rfl⟩ : ∃ wo : World, wo = w4 := ⟨_, rfl⟩
      go_wp2_with fail
      go_loopw [23, 27] (susRel wo L bd gs n) (fun _ i _ => n - (intOf i).toNat)
      case atStart => exact ⟨0, Nat.zero_le _, rfl, Own.nil _ _ _ _, Below.refl _ _⟩
      case round =>
        obtain ⟨q, hq, rfl, hown, hbw⟩ := hrel
        have HOW := Lib.hid hown; have HBW := Lib.hid hbw
        have HB5 := Lib.hid (HB4.out.trans (hbw.mono HB4.out.size)); have HQ5 := Lib.hid (HQ4.out.trans (hbw.mono HQ4.out.size)); have HZ5 := Lib.hid (HZ4.out.trans (hbw.mono HZ4.out.size))
        have hfl := filt_len (sus L bd gs) q
        obtain ⟨fl, hfle⟩ : ∃ k, (filt (sus L bd gs) q).length = k := ⟨_, rfl⟩
        rw [hfle] at hfl
        obtain ⟨ao, co, rfl, -, -, har⟩ := num.own_len hown hfle
        have HFL := Lib.hid hfle
        clear hown hbw hfle
        by_cases hlt : q < n
        · have HIS := Lib.hid (issus_any (c := c) (c2 := c2) (HASK.out _ HB5.out) hlt hblt (by omega))
          clear har
          go_wp2_with fail
          refine HIS.out.mono ?_
          rintro e w5 ⟨rfl, hb5⟩
          have HBW5 := Lib.hid (HBW.out.trans (hb5.mono HBW.out.size))
          have HOW5 := Lib.hid (HOW.out.below hb5 (fun _ h => h.elim))
          have hbs5 : wo.heap.size ≤ w5.heap.size := HBW5.out.size
          clear hb5 HIS
          cases hs : sus L bd gs q with
          | true =>
            have HFS : Hid (filt (sus L bd gs) (q + 1) = filt (sus L bd gs) q ++ [(q : Int)]) := by show _ = _; rw [filt_succ, hs, if_pos rfl]
            have HI : Hid (I64 (q : Int)) := by show I64 _; unfold I64; omega
            clear hs
            go_wp2_with ((at_builtin; with_reducible refine Try.wp_appd30 rfl rfl rfl rfl rfl (by first | rfl | simp) (HOW5.out) (cells_int HI.out) (fun _ h => h.elim) (by (have := HFL.out; omega)) (by exact hbs5) fun v' w' hown' hg' hst' => ?_); have HN1 := Lib.hid hown'; have HN3 := Lib.hid hg'; clear hown' hg' hst')
            go_roundw
            case rel => exact ⟨q + 1, by omega, by go_num, by rw [HFS.out]; exact HN1.out, HBW5.out.grown HN3.out hbs5 (fun k hk => (HOW5.out.lt k hk).1)⟩
            case measure => simp [intOf]; omega
          | false =>
            have HFS : Hid (filt (sus L bd gs) (q + 1) = filt (sus L bd gs) q) := by show _ = _; rw [filt_succ, hs, if_neg (by simp), List.append_nil]
            clear hs
            go_wp2_with fail
            go_roundw
            case rel => exact ⟨q + 1, by omega, by go_num, by rw [HFS.out]; exact HOW5.out, HBW5.out⟩
            case measure => simp [intOf]; omega
        · have HQN : Hid (q = n) := by show _ = _; omega
          have hfs : filt (sus L bd gs) q = susL L bd gs := by unfold susL; rw [HN.out, HQN.out]
          have hfn : fl = ns := by rw [← HFL.out, hfs, HNS2.out]
          subst hfn
          have HRS : Hid (∀ W', Below wr.heap.size wr W' → Arr (fun _ => True) W' ao (susL L bd gs)) := fun W' hW => (by rw [← hfs]; exact (har.keep fun b hb => hW.block b hb.2).mono fun _ _ => trivial)
          clear har hfs HOW
          go_wp2_with fail
          refine (rpick_any (c := c) (c2 := c2) (HASK.out _ HB5.out) hblt (by omega)).mono ?_
          rintro e w6 ⟨rfl, hb6⟩
          rw [HPO.out]
          have HB6 := Lib.hid (HB5.out.trans (hb6.mono HB5.out.size)); have HQ6 := Lib.hid (HQ5.out.trans (hb6.mono HQ5.out.size)); have HZ6 := Lib.hid (HZ5.out.trans (hb6.mono HZ5.out.size))
          have HRS6 : Hid (∀ W', Below w6.heap.size w6 W' → Arr (fun _ => True) W' ao (susL L bd gs)) := fun W' hW => HRS.out W' (hb6.trans (hW.mono hb6.size))
          have HOZ : Hid (Own (fun _ => False) (w6.alloc (.cells #[] 3)) w6.heap.size 3 (.slice (some ⟨w6.heap.size, 0, none⟩) 0 0) ([] : List Int)) := own_zero (Nat.le_refl _) box_zero
          have HGZ : Hid (Arr (· < W.heap.size) (w6.alloc (.cells #[] 3)) a2 G) := HGA.out _ (HB6.out.alloc HB6.out.size _)
          have HLEN : Hid (([] : List Int).length + n2 ≤ 1000000000) := by show _ ≤ _; first | (simp; omega) | simp
          have hsz6 : w6.heap.size ≤ (w6.alloc (.cells #[] 3)).heap.size := by simp
          clear hb6
          go_wp2_with ((at_builtin; with_reducible refine Try.wp_apps30 rfl rfl rfl rfl (HN2.out) (HOZ.out) (HGZ.out) Try.flat30 (hnil2) (fun _ h => h.elim) (by exact HLEN.out) (by exact hsz6) fun v' w' hown' hg' => ?_); have hbw : Below w6.heap.size w6 w' := box_below (n := 0) (c := 0) (by with_unfolding_all exact hg'); have HOL := Lib.hid hown'; have HWL := Lib.hid hbw; clear hown' hg' hbw)
          have HWB6 := Lib.hid (HB6.out.trans (HWL.out.mono HB6.out.size))
          go_loopw [25, 26, 28, 29] (fun b m g p w'' => askRel w6 L (trF tr) (bd, gs) b m g p w'') (fun _ m _ _ _ => 300 - (intOf m).toNat)
          case atStart => exact ⟨0, (fun j hj => by omega), rfl, by (have := HOL.out; rw [List.nil_append, HGE.out] at this; exact this), rfl, by (show Value.int .i64 P = _; rw [← HPO.out]; rfl), HWL.out⟩
          case round =>
            obtain ⟨k, hgo, rfl, hown, rfl, rfl, hbw⟩ := hrel
            obtain ⟨hfi, -⟩ := hgo.fine HV.out HFN.out
            have hk200 := hgo.bound HV.out HFN.out
            rw [HN.out] at hk200
            have hsl3 := seq_len L (trF tr) (bd, gs) k
            obtain ⟨⟨b, g⟩, hst⟩ : ∃ s, seq L (trF tr) (bd, gs) k = s := ⟨_, rfl⟩
            have HGO := Lib.hid hgo; have HST := Lib.hid hst
            rw [hst] at hown hfi hsl3 ⊢
            dsimp only at hown hsl3 ⊢
            rw [HGN.out] at hsl3
            have hbl : b < n := by have := hfi.bad; rw [HN.out] at this; exact this
            have hgl : ∀ x ∈ g, x < n := by have := hfi.good; rw [HN.out] at this; exact this
            have hgn := pick_ge L b g
            have hps := pick_spec (l := L) (b := b) (gs := g)
            obtain ⟨pp, hpp⟩ : ∃ p, pick L b g = p := ⟨_, rfl⟩
            rw [hpp] at hgn hps ⊢
            have HPP := Lib.hid hpp; have HPS := Lib.hid hps; have HFI := Lib.hid hfi; have HGL2 := Lib.hid hgl
            have HOW := Lib.hid hown; have HBW := Lib.hid hbw
            have HBA := Lib.hid (HB6.out.trans (hbw.mono HB6.out.size))
            obtain ⟨ng, hng⟩ : ∃ ng, g.length = ng := ⟨_, rfl⟩
            rw [hng] at hsl3
            obtain ⟨ag, cg, rfl, -, -, hag⟩ := num.own_len (n := ng) hown (by rw [List.length_map]; exact hng)
            have HNG := Lib.hid hng; have HAG := Lib.hid hag
            clear hgo hst hfi hgl hps hpp hown hag hng
            by_cases hneg : pp < 0
            · have hKk : K = k := HSTOP.out.unique ⟨HGO.out, by rw [HST.out]; show pick L b g < 0; rw [HPP.out]; exact hneg⟩
              subst hKk
              have hSBb : SB = b := by rw [← HSB.out, HST.out]
              subst hSBb
              have hd : decide (0 ≤ pp) = false := by simp; omega
              have HRS8 := Lib.hid (HRS6.out _ hbw)
              have HQ8 := Lib.hid (HQ6.out.trans (hbw.mono HQ6.out.size))
              clear hbw
              go_wp2_with fail
              refine (same_nil HNS2.out (by rw [← HSO.out]; exact HR4.out _ HQ8.out) HRS8.out).mono ?_
              rintro e w9 ⟨rfl, hq9⟩
              have HB9 := Lib.hid (HBA.out.trans (hq9.below _))
              clear hq9
              by_cases hpn : P < 0
              · have hb0 : Bv = 0 := by rw [← HBV.out, if_pos hpn]
                have hs0 : Sm = false := by rw [← HSM.out]; simp; omega
                have hd0 : decide (0 ≤ P) = false := by simp; omega
                subst hb0 hs0
                go_wp2_with fail
                go_ret
                exact ⟨by simp, HB9.out⟩
              · have hb0 : Bv = P := by rw [← HBV.out, if_neg hpn]
                have hs0 : Sm = true := by rw [← HSM.out]; simp; omega
                have hd0 : decide (0 ≤ P) = true := by simp; omega
                subst hb0 hs0
                have hbb : (Bv == Bv) = true := by simp
                go_wp2_with fail
                go_ret
                exact ⟨by simp, HB9.out⟩
            · obtain ⟨p, rfl, hpl, hpsus, hpb⟩ := HPS.out (by omega)
              rw [HN.out] at hpl
              have hd : decide ((0 : Int) ≤ (p : Int)) = true := by simp
              have HNX : Hid (seq L (trF tr) (bd, gs) (k + 1) = if trF tr p then (p, g) else (b, g ++ [p])) := by
                show nxt L (trF tr) (seq L (trF tr) (bd, gs) k) = _
                rw [HST.out, nxt]
                dsimp only
                rw [HPP.out, Int.toNat_natCast]
              have HG1 := Lib.hid (HGO.out.succ (by rw [HST.out]; show 0 ≤ pick L b g; rw [HPP.out]; omega))
              have HBQ := Lib.hid (HKT.out wr (HZ6.out.trans (hbw.mono HZ6.out.size)) p)
              have hk201 := HG1.out.bound HV.out HFN.out
              rw [HN.out] at hk201
              clear hbw
              go_wp2_with fail
              refine HBQ.out.mono ?_
              rintro e w8 ⟨rfl, hb8⟩
              have hbw8 : w6.heap.size ≤ wr.heap.size := HBW.out.size
              have HB8 := Lib.hid (HBW.out.trans (hb8.mono hbw8))
              have HO8 := Lib.hid (HOW.out.below hb8 (fun _ h => h.elim))
              have HA8 : Hid (Arr (fun b => w6.heap.size ≤ b ∧ b < wr.heap.size) w8 ag (g.map Int.ofNat)) := HAG.out.keep (fun b hb => hb8.block b hb.2)
              have HBA8 := Lib.hid (HB6.out.trans (HB8.out.mono HB6.out.size))
              have hs8 : wr.heap.size ≤ w8.heap.size := hb8.size
              clear hb8 HBQ
              cases htr : trF tr p with
              | true =>
                have HNX2 : Hid (seq L (trF tr) (bd, gs) (k + 1) = (p, g)) := by show _ = _; rw [HNX.out, if_pos htr]
                have HRP := Lib.hid (rpick_any (c := c) (c2 := cg) (gs := g) (bd := p) (n2 := ng) ⟨HN.out, HNG.out, hn200, HV.out, HGL2.out, ⟨_, HLA.out _ HBA8.out, HLT.out _ HBA8.out⟩, ⟨_, HA8.out, fun b hb => Nat.lt_of_lt_of_le hb.2 hs8⟩⟩ hpl (by omega))
                clear htr
                go_wp2_with fail
                refine HRP.out.mono ?_
                rintro e w9 ⟨rfl, hb9⟩
                have HB9 := Lib.hid (HB8.out.trans (hb9.mono HB8.out.size)); have HO9 := Lib.hid (HO8.out.below hb9 (fun _ h => h.elim))
                clear hb9 HRP
                go_wp2_with fail
                go_roundw
                case rel => exact ⟨k + 1, HG1.out, by rw [HNX2.out], by rw [HNX2.out]; exact HO9.out, by go_num, by rw [HNX2.out], HB9.out⟩
                case measure => simp [intOf]; omega
              | false =>
                have HNX2 : Hid (seq L (trF tr) (bd, gs) (k + 1) = (b, g ++ [p])) := by show _ = _; rw [HNX.out, if_neg (by rw [htr]; simp)]
                have HFM : Hid (∀ (w' : World) (v' : Value), Own (fun _ => False) w' w6.heap.size 3 v' (g.map Int.ofNat ++ [(p : Int)]) → ∃ a' c', v' = .slice a' (ng + 1) c' ∧ Arr (fun b => w6.heap.size ≤ b ∧ b < w'.heap.size) w' a' ((g ++ [p]).map Int.ofNat)) := fun w' v' ho => by
                  obtain ⟨a', c', hv, -, -, ha⟩ := num.own_len (n := ng + 1) ho (by rw [List.length_append, List.length_map, HNG.out]; rfl)
                  exact ⟨a', c', hv, by rw [List.map_append]; exact ha⟩
                have HGL3 : Hid (∀ x ∈ g ++ [p], x < n) := fun x hx => by
                  rcases List.mem_append.1 hx with hx | hx
                  · exact HGL2.out x hx
                  · rw [List.mem_singleton.1 hx]; exact hpl
                have HNG2 : Hid ((g ++ [p]).length = ng + 1) := by show _ = _; rw [List.length_append, HNG.out]; rfl
                have HGM : Hid ((g.map Int.ofNat).length + 1 ≤ 1000000000) := by show _ ≤ _; rw [List.length_map, HNG.out]; omega
                have hbw55 : w6.heap.size ≤ w8.heap.size := HB8.out.size
                have HI : Hid (I64 (p : Int)) := by show I64 _; unfold I64; omega
                clear htr
                go_wp2_with ((at_builtin; with_reducible refine Try.wp_appd30 rfl rfl rfl rfl rfl (by first | rfl | simp) (HO8.out) (cells_int HI.out) (fun _ h => h.elim) (by exact HGM.out) (by exact hbw55) fun v' w' hown' hg' hst' => ?_); obtain ⟨a8, c8, rfl, har8⟩ := HFM.out _ _ hown'; have HO9 := Lib.hid hown'; have HG9 := Lib.hid hg'; have HA9 := Lib.hid har8; clear hown' hg' hst' har8)
                have hb89 := (Below.refl w6.heap.size w8).grown HG9.out hbw55 (fun j hj => (HO8.out.lt j hj).1)
                have HB9 := Lib.hid (HB8.out.trans hb89)
                have HBA9 := Lib.hid (HB6.out.trans (HB9.out.mono HB6.out.size))
                have HRP := Lib.hid (rpick_any (c := c) (c2 := c8) (gs := g ++ [p]) (bd := b) (n2 := ng + 1) ⟨HN.out, HNG2.out, hn200, HV.out, HGL3.out, ⟨_, HLA.out _ HBA9.out, HLT.out _ HBA9.out⟩, ⟨_, HA9.out, fun b hb => hb.2⟩⟩ hbl (by omega))
                clear hb89
                refine HRP.out.mono ?_
                rintro e w10 ⟨rfl, hb10⟩
                have HB10 := Lib.hid (HB9.out.trans (hb10.mono HB9.out.size))
                have HO10 : Hid (Own (fun _ => False) w10 w6.heap.size 3 (.slice a8 (ng + 1) c8) ((g ++ [p]).map Int.ofNat)) := by
                  show Own _ _ _ _ _ _
                  rw [List.map_append]
                  exact HO9.out.below hb10 (fun _ h => h.elim)
                clear hb10 HRP
                go_wp2_with fail
                go_roundw
                case rel => exact ⟨k + 1, HG1.out, by rw [HNX2.out], by rw [HNX2.out]; exact HO10.out, by go_num, by rw [HNX2.out], HB10.out⟩
                case measure => simp [intOf]; omega
  · have hd1 : (E == 0) = false := by simpa using hE0
    have hP1 : P = -1 := by rw [← HP.out]; exact pickOf_bad (by rw [HE.out]; exact hE0)
    have hso : susOf L bad G = [] := susOf_bad (by rw [HE.out]; exact hE0)
    have hns0 : ns = 0 := by rw [← HNS.out, hso]; rfl
    subst hP1 hns0
    rw [hso] at HR4
    cases nn with
    | true =>
      go_wp2_with fail
      refine (hunt_bad (c := c) (c2 := c2) HN.out HN2.out (HLA.out _ HB2.out) (HGA.out _ HB2.out) (HLT.out _ HB2.out) (HLT.out _ HB2.out) hbad HE.out hE0).mono ?_
      rintro e w3 ⟨rfl, hb3⟩
      have HB3 := Lib.hid (HB2.out.trans (hb3.mono HB2.out.size)); have HQ3 := Lib.hid (HQ12.out.trans (hb3.mono HQ12.out.size))
      clear hb3
      go_wp2_with fail
      refine (rhuntErr_any (c := c) (c2 := c2) HN.out HN2.out (HLA.out _ HB3.out) (HGA.out _ HB3.out) (HLT.out _ HB3.out) (HLT.out _ HB3.out) hnil2 hbad HE.out (by omega)).mono ?_
      rintro e w4 ⟨rfl, hb4⟩
      have HB4 := Lib.hid (HB3.out.trans (hb4.mono HB3.out.size)); have HQ4 := Lib.hid (HQ3.out.trans (hb4.mono HQ3.out.size))
      clear hb4
      go_wp2_with fail
      refine (same_nil rfl (HR4.out _ HQ4.out) (Arr.nil (fun _ => True) _ none)).mono ?_
      rintro e w5 ⟨rfl, hq5⟩
      have HB5 := Lib.hid (HB4.out.trans (hq5.below _))
      clear hq5
      go_wp2_with fail
      go_ret
      exact ⟨by simp, HB5.out⟩
    | false =>
      go_wp2_with fail
      refine (hunt_bad (c := c) (c2 := c2) HN.out HN2.out (HLA.out _ HB2.out) (HGA.out _ HB2.out) (HLT.out _ HB2.out) (HLT.out _ HB2.out) hbad HE.out hE0).mono ?_
      rintro e w3 ⟨rfl, hb3⟩
      have HB3 := Lib.hid (HB2.out.trans (hb3.mono HB2.out.size)); have HQ3 := Lib.hid (HQ12.out.trans (hb3.mono HQ12.out.size))
      clear hb3
      go_wp2_with fail
      refine (rhuntErr_any (c := c) (c2 := c2) HN.out HN2.out (HLA.out _ HB3.out) (HGA.out _ HB3.out) (HLT.out _ HB3.out) (HLT.out _ HB3.out) hnil2 hbad HE.out (by omega)).mono ?_
      rintro e w4 ⟨rfl, hb4⟩
      have HB4 := Lib.hid (HB3.out.trans (hb4.mono HB3.out.size)); have HQ4 := Lib.hid (HQ3.out.trans (hb4.mono HQ3.out.size))
      clear hb4
      go_wp2_with fail
      refine (same_nil rfl (HR4.out _ HQ4.out) (Arr.nil (fun _ => True) _ none)).mono ?_
      rintro e w5 ⟨rfl, hq5⟩
      have HB5 := Lib.hid (HB4.out.trans (hq5.below _))
      clear hq5
      go_wp2_with fail
      go_ret
      exact ⟨by simp, HB5.out⟩
end Go.Proofs.Ytfdpannanpipdaa.hunt
