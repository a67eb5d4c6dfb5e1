/- The law IrCuts: walked. -/
import Derived.Test.YtiiekmipcjpheaaDoorRcutF
import Derived.Test.YtiiekmipcjpheaaDoorMay
import Derived.Test.YtiiekmipcjpheaaDoorChkE
set_option linter.unusedVariables false
set_option linter.unusedSimpArgs false
namespace Go.Proofs.YtiiekmipcjpheaaDoor.cut
open Go.Bk Go.RowKit Go.Proofs.YtiiekmipcjpheaaDoor.ir Go.Proofs.YtiiekmipcjpheaaDoor.chk
attribute [local go_sem ↓] Go.wp_at_zero Go.wp_at_succ

theorem toOk_pre {ts : List Int} {j k : Nat} (h : toOk ts k = true) (hj : j ≤ k) : toOk ts j = true := by
  cases hq : toOk ts j with
  | true => rfl
  | false => rw [toOk_stop hq hj] at h; cases h
/-- What is known of the handed over all along. -/
structure LC (S : Nat → Prop) (w : World) (P T : Array Value) (p : Api.Prog) (t : Api.TTrace) (ts : List Int) (aT : Option Addr) (W : World) : Prop where
  rp : Row W w.heap.size 26 P
  rt : Row W (w.heap.size + 1) 34 T
  p : Rep.cells S W P.toList p
  t : Rep.cells S W T.toList t
  ts : Arr S W aT ts
  S : ∀ b, S b → b < W.heap.size
  below : Below w.heap.size w W
  asc : cod.Asc W
set_option maxRecDepth 100000 in
set_option maxHeartbeats 4000000 in
theorem irCuts_walk (W : World) (args : Array Value) (h : ArgsRead Tryd.prog W [26, 34, 35] args.toList) (hL : laidMetH Tryd.prog laidL W) :
    Calls Tryd.prog 3 args W fun e W' => e = .returned (.bool true) ∧ Below W.heap.size W W' := by
  obtain ⟨v0, v1, v2, rfl, r0, r1, r2⟩ := h.three
  obtain ⟨cp, p, rfl, hp⟩ := r0.struct Tryd.underlying26 Tryd.opens26
  obtain ⟨ct, t, rfl, ht⟩ := r1.struct Tryd.underlying34 Tryd.opens34
  obtain ⟨aT, ts, cT, rfl, -, -, hts⟩ := r2.slice Tryd.underlying35 Tryd.opens35
  have hA := asc_of_laid hL
  obtain ⟨S, hS, hp, ht, hts⟩ : ∃ S : Nat → Prop, (∀ b, S b → b < W.heap.size) ∧ Rep.cells S W cp p ∧ Rep.cells S W ct t ∧ Arr S W aT ts := ⟨_, fun b hb => hb, hp, ht, hts⟩
  obtain ⟨P, rfl⟩ : ∃ P : Array Value, cp = P.toList := ⟨cp.toArray, by simp⟩
  obtain ⟨T, rfl⟩ : ∃ T : Array Value, ct = T.toList := ⟨ct.toArray, by simp⟩
  rw [show P.toList.toArray = P by simp, show T.toList.toArray = T by simp]
  obtain ⟨a0, nF, c0, hP⟩ := pin_of hp
  obtain ⟨aI, nI, cI, hT⟩ := tin_of ht
  have hsP := hP.size
  have hsT := hT.size
  have hI9 := hT.few
  obtain ⟨nT, hnT⟩ : ∃ n, n = ts.length := ⟨_, rfl⟩
  have hT9 : nT ≤ 9223372036854775807 := by rw [hnT]; have := hts.small; unfold maxLen at this; omega
  rw [← hnT]
  have HNT : Hid (ts.length = nT) := hnT.symm
  have HC3 := Lib.hid hT.c3; have HLI := Lib.hid hT.len
  obtain ⟨w1, hw1⟩ : ∃ w1, w1 = (W.alloc (.cells P 26)).alloc (.cells T 34) := ⟨_, rfl⟩
  obtain ⟨rP, rT, hb1, hz1⟩ := rows2 W P T _ _ w1 hw1
  have HCE : Hid (∀ W', Below w1.heap.size w1 W' → LC S W P T p t ts aT W') := fun W' hb => by
    have hbw : Below W.heap.size W W' := hb1.trans (hb.mono hb1.size)
    have hk : ∀ b, S b → W'.heap[b]? = W.heap[b]? := fun b hb' => hbw.block b (hS b hb')
    exact ⟨rP.keep (hb.block _ rP.lt), rT.keep (hb.block _ rT.lt), Rep.keep hk hp, Rep.keep hk ht, hts.keep hk, fun b hb' => Nat.lt_of_lt_of_le (hS b hb') hbw.size, hbw, hA.keep hbw⟩
  have HB0 : Hid (Below w1.heap.size w1 w1) := Below.refl _ _
  have HL0 : Hid (LC S W P T p t ts aT w1) := HCE.out _ HB0.out
  obtain ⟨m, hm⟩ : ∃ m, m = decide (cod.codeChk p = 0 ∧ traceChk p t = 0) := ⟨_, rfl⟩
  have HM : Hid (Calls Tryd.prog 10 #[.agg P, .agg T] w1 fun e w' => e = .returned (.bool m) ∧ Below w1.heap.size w1 w') := by
    have k := HL0.out
    rw [hm]
    exact lmay_any k.p k.t k.S k.asc
  have HIR : Hid (∀ W', Calls Tryd.prog 11 #[] W' fun e w' => e = .returned (.bool true) ∧ Below W'.heap.size W' w') := fun W' => irred_any
  have hz1 : W.heap.size + 1 < w1.heap.size := by omega
  cases m with
  | false =>
    as_aux_lemma =>
      clear hP hT hp ht hS hts hA rP rT hb1 hm h r0 r1 r2 hL hnT
      go_enter Tryd.func3, Tryd.ntmps3
      go_upto_region 1 with fail
      rw [← hw1]
      clear hw1
      go_wp2_with (first
        | (go_at_call 10; (with_reducible refine HM.out.mono ?_); rintro e w2 ⟨rfl, hb2⟩; have HB2 := Lib.hid hb2; clear hb2)
        | (go_at_call 11; (with_reducible refine (HIR.out _).mono ?_); rintro e w3 ⟨rfl, hb3⟩; have HB3 := Lib.hid (HB2.out.trans (hb3.mono HB2.out.size)); clear hb3)
        | (with_reducible refine ldP rfl rfl rfl HL0.out.rp hsP ?_)
        | (with_reducible refine ldT rfl rfl rfl HL0.out.rt hsT ?_))
      go_ret
      exact ⟨rfl, (HCE.out _ HB3.out).below⟩
  | true =>
    have hmm := of_decide_eq_true hm.symm
    have hr : RightT t := right_of hmm.1 hmm.2
    have HRT := Lib.hid hr
    have hfi : nI ≤ 300 := by rw [← hT.len]; exact hr.few
    have HIC : Hid (∀ W', LC S W P T p t ts aT W' → Calls Tryd.prog 12 #[.agg T, .slice aT nT cT] W' fun e w' => ∃ C : Array Value, C.size = 13 ∧ C.all (·.oneCell') = true ∧ e = .returned (.tuple #[.agg C, .int .i64 (cutG t ts).2]) ∧ Rep.cells (Fresh W' w') w' C.toList (cutG t ts).1 ∧ Below W'.heap.size W' w') := fun W' k => by
      refine (icut_any k.t k.S k.ts k.S HNT.out hr.fewT).mono ?_
      rintro e w' ⟨cs, rfl, hc, hb⟩
      refine ⟨cs.toArray, rep_size (X := cs.toArray) (by simpa using hc), ?_, rfl, by simpa using hc, hb⟩
      rw [Array.all_eq_true_iff_forall_mem]
      exact fun v hv => Rep.one hc v (by simpa using hv)
    have HSM : Hid (∀ (W' : World) (S1 S2 : Nat → Prop) (X Y : Array Value) (z : Api.TTrace), Rep.cells S1 W' X.toList z → Rep.cells S2 W' Y.toList z → (∀ b, S1 b → b < W'.heap.size) → (∀ b, S2 b → b < W'.heap.size) → Calls Tryd.prog 14 #[.agg X, .agg Y] W' fun e w' => e = .returned (.bool true) ∧ Below W'.heap.size W' w') := fun W' S1 S2 X Y z hx hy h1 h2 => sameTrace_true hx hy h1 h2
    have HZE : Hid (∀ W', Rep.cells (fun _ => False) W' zeroTL zeroT) := fun W' => by
      have h0 : I64 0 := by unfold I64; omega
      exact ⟨_, _, ⟨rfl, h0⟩, ⟨_, _, ⟨rfl, h0⟩, ⟨_, _, ⟨rfl, h0⟩, ⟨_, _, ⟨none, 0, rfl, Nat.le_refl _, fun _ => rfl, Arr.nil _ _ _⟩, ⟨_, _, ⟨none, 0, rfl, Nat.le_refl _, fun _ => rfl, Arr.nil _ _ _⟩, ⟨_, _, zero_exit, zero_exit, rfl⟩, rfl⟩, rfl⟩, rfl⟩, rfl⟩, rfl⟩
    have HTAT : Hid (∀ (W' : World) (k : Nat), LC S W P T p t ts aT W' → k < nT → ∃ (b o : Nat) (n : Int), aT = some ⟨b, o, none⟩ ∧ W'.cell? ⟨b, o + k, none⟩ = some (.int .i64 n) ∧ ts[k]? = some n ∧ b < W'.heap.size) := fun W' k hk hlt => by
      obtain ⟨n, hn⟩ : ∃ n, ts[k]? = some n := ⟨_, List.getElem?_eq_getElem (by rw [HNT.out]; exact hlt)⟩
      obtain ⟨b, o, cs, e, hb, ⟨rfl, -⟩, g1⟩ := hk.ts.at hn
      exact ⟨b, o, n, e, by simpa [show Rep.sz Int = 1 from rfl] using g1 0 Nat.zero_lt_one, hn, hk.S b hb⟩
    clear hP hT hp ht hS hts hA rP rT hb1 hm h r0 r1 r2 hL hmm hr hnT
    obtain ⟨g, hg⟩ : ∃ g, g = cutG t ts := ⟨_, rfl⟩
    rw [← hg] at HIC
    have HG := Lib.hid hg
    clear hg
    obtain ⟨gt, ge⟩ := g
    go_enter Tryd.func3, Tryd.ntmps3
    go_upto_region 1 with fail
    rw [← hw1]
    clear hw1
    go_upto_region 3 with (first
      | (go_at_call 10; (with_reducible refine HM.out.mono ?_); rintro e w2 ⟨rfl, hb2⟩; have HB2 := Lib.hid hb2; clear hb2)
      | (with_reducible refine ldP rfl rfl rfl HL0.out.rp hsP ?_)
      | (with_reducible refine ldT rfl rfl rfl HL0.out.rt hsT ?_))
    have HL2 := Lib.hid (HCE.out _ HB2.out)
    go_cut [7, 8] (fun s7 s8 wz => ∃ (g7 : Nat) (C : Array Value), s7 = .pointer (some ⟨g7, 0, none⟩) ∧ s8 = .int .i64 ge ∧ C.size = 13 ∧ Row wz g7 34 C ∧ w2.heap.size ≤ g7 ∧ Rep.cells (fun b => w2.heap.size ≤ b ∧ b < wz.heap.size) wz C.toList gt ∧ Below w2.heap.size w2 wz)
    case first =>
      as_aux_lemma =>
        go_wp2_with (first
          | (with_reducible refine ldT rfl rfl rfl HL2.out.rt hsT ?_)
          | (go_at_call 12; (with_reducible refine (HIC.out _ HL2.out).mono ?_); rintro e w3 ⟨C, hC1, hC2, rfl, hr3, hb3⟩; have HB3 := Lib.hid hb3; have HC1 := Lib.hid hC1; have HC2 := Lib.hid hC2; have HR3 := Lib.hid hr3; have HO3 : Hid (Row (w3.alloc (.cells #[.int .i64 0, .int .i64 0, .int .i64 0, .slice none 0 0, .slice none 0 0, .int .i64 0, .int .i64 0, .slice none 0 0, .slice none 0 0, .int .i64 0, .int .i64 0, .slice none 0 0, .slice none 0 0] 34)) w3.heap.size 34 #[.int .i64 0, .int .i64 0, .int .i64 0, .slice none 0 0, .slice none 0 0, .int .i64 0, .int .i64 0, .slice none 0 0, .slice none 0 0, .int .i64 0, .int .i64 0, .slice none 0 0, .slice none 0 0]) := row_new _ _ _; clear hb3 hC1 hC2 hr3)
          | (with_reducible refine stT (OLD := #[.int .i64 0, .int .i64 0, .int .i64 0, .slice none 0 0, .slice none 0 0, .int .i64 0, .int .i64 0, .slice none 0 0, .slice none 0 0, .int .i64 0, .int .i64 0, .slice none 0 0, .slice none 0 0]) (C := C) rfl rfl rfl rfl HO3.out HC1.out rfl HC2.out ?_))
        go_meet
        rw [setRow_alloc]
        exact ⟨_, C, rfl, rfl, HC1.out, row_new _ _ _, HB3.out.size, Rep.mono (fun b hb => ⟨hb.1, by have := hb.2; rw [World.size_alloc]; omega⟩) (Rep.keep (fun b hb => Below.heap_alloc _ _ _ hb.2) HR3.out), HB3.out.alloc HB3.out.size _⟩
    case rest =>
      obtain ⟨g7, C, hs7, hs8, hsC, hrw, hg7, hrg, hb⟩ := hcut
      subst hs7 hs8
      obtain ⟨w4, hw4⟩ : ∃ w4 : World, w4 = wc := ⟨_, rfl⟩
      rw [← hw4] at hrw hrg hb ⊢
      have HRW4 := Lib.hid hrw; have HRG := Lib.hid hrg
      have HB4 : Hid (Below w1.heap.size w1 w4) := HB2.out.trans (hb.mono HB2.out.size)
      have HL4 := Lib.hid (HCE.out _ HB4.out)
      have t3 := HL4.out.rt.cell HC3.out
      have l3 := HL4.out.rt.lt
      clear hw4 hrw hrg hb
      have HSZ : gt = zeroT → Hid (∀ W', Below w4.heap.size w4 W' → Calls Tryd.prog 14 #[.agg C, .agg #[.int .i64 0, .int .i64 0, .int .i64 0, .slice none 0 0, .slice none 0 0, .int .i64 0, .int .i64 0, .slice none 0 0, .slice none 0 0, .int .i64 0, .int .i64 0, .slice none 0 0, .slice none 0 0]] W' fun e w' => e = .returned (.bool true) ∧ Below W'.heap.size W' w') := fun hz W' hb => by
        refine HSM.out W' (fun b => w2.heap.size ≤ b ∧ b < w4.heap.size) (fun _ => False) C #[.int .i64 0, .int .i64 0, .int .i64 0, .slice none 0 0, .slice none 0 0, .int .i64 0, .int .i64 0, .slice none 0 0, .slice none 0 0, .int .i64 0, .int .i64 0, .slice none 0 0, .slice none 0 0] zeroT ?_ (HZE.out _) (fun b h => Nat.lt_of_lt_of_le h.2 hb.size) (fun b h => h.elim)
        have h := HRG.out
        rw [hz] at h
        exact Rep.keep (fun b h => hb.block b h.2) h
      have HSZ := Lib.hid HSZ
      by_cases hlen : nT = nI
      · subst hlen
        have dlen : ((nT : Int) == (nT : Int)) = true := by simp
        cases hok : toOk ts t.Ins.length with
        | false =>
          as_aux_lemma =>
            have hg : (gt, ge) = (zeroT, 3) := by
              rw [HG.out]
              unfold cutG toRight
              rw [hok]
              simp
            obtain ⟨rfl, rfl⟩ : gt = zeroT ∧ ge = 3 := by injection hg with h1 h2; exact ⟨h1, h2⟩
            have HSZ2 := HSZ.out rfl
            have HOK : Hid (toOk ts nT = false) := by rw [← HLI.out]; exact hok
            clear hg hok
            go_wp2_with fail
            clear dlen
            go_loop [9, 10] (fun s9 s10 => ∃ k : Nat, k ≤ nT ∧ s9 = .bool (toOk ts k) ∧ s10 = .int .i64 k) (fun _ s10 => nT - (intOf s10).toNat)
            case atStart => exact ⟨0, Nat.zero_le _, rfl, rfl⟩
            case round =>
              obtain ⟨k, hk, rfl, rfl⟩ := hrel
              obtain ⟨bk, hbk⟩ : ∃ bk, bk = toOk ts k := ⟨_, rfl⟩
              rw [← hbk]
              have HBK := Lib.hid hbk
              clear hbk
              cases bk with
              | false =>
                go_upto_region 10 with fail
                generalize hw5 : w4.alloc (.cells #[.int .i64 0, .int .i64 0, .int .i64 0, .slice none 0 0, .slice none 0 0, .int .i64 0, .int .i64 0, .slice none 0 0, .slice none 0 0, .int .i64 0, .int .i64 0, .slice none 0 0, .slice none 0 0] 34) = w5
                have HB5 : Hid (Below w4.heap.size w4 w5) := by rw [← hw5]; exact (Below.refl _ _).alloc (Nat.le_refl _) _
                clear hw5
                go_wp2_with (first
                  | (go_at_call 11; (with_reducible refine (HIR.out _).mono ?_); rintro e w6 ⟨rfl, hb6⟩; have HB6 := Lib.hid (HB5.out.trans (hb6.mono HB5.out.size)); have HRW6 := Lib.hid (HRW4.out.keep (HB6.out.block _ HRW4.out.lt)); clear hb6)
                  | (with_reducible refine ldT rfl rfl rfl HRW6.out hsC ?_)
                  | (go_at_call 14; (with_reducible refine (HSZ2.out _ HB6.out).mono ?_); rintro e w7 ⟨rfl, hb7⟩; have HB7 := Lib.hid (HB6.out.trans (hb7.mono HB6.out.size)); clear hb7))
                go_ret
                exact ⟨rfl, HL4.out.below.trans (HB7.out.mono HL4.out.below.size)⟩
              | true =>
                have hlt : k < nT := by
                  rcases Nat.lt_or_ge k nT with h | h
                  · exact h
                  · obtain rfl : k = nT := by omega
                    have := HBK.out.trans HOK.out
                    cases this
                obtain ⟨b, o, n, haT, hc, hn, hlb⟩ := HTAT.out w4 k HL4.out hlt
                subst haT
                have HSK : Hid (toOk ts (k + 1) = (decide (-1 ≤ n) && decide (n ≤ k))) := toOk_succ HBK.out.symm hn
                have hlt' : (k : Int) < nT := by omega
                clear hn
                by_cases h1 : -1 ≤ n
                · by_cases h2 : n ≤ k
                  · have e1 : decide (-1 ≤ n) = true := decide_eq_true h1
                    have e2 : decide (n ≤ (k : Int)) = true := decide_eq_true h2
                    have HSV : Hid (toOk ts (k + 1) = true) := by show _ = _; rw [HSK.out, e1, e2]; rfl
                    go_wp2_with fail
                    all_goals go_round
                    all_goals first
                      | exact ⟨k + 1, by omega, by rw [HSV.out], by go_num⟩
                      | (simp [intOf]; omega)
                  · have e1 : decide (-1 ≤ n) = true := decide_eq_true h1
                    have e2 : decide (n ≤ (k : Int)) = false := decide_eq_false h2
                    have HSV : Hid (toOk ts (k + 1) = false) := by show _ = _; rw [HSK.out, e1, e2]; rfl
                    go_wp2_with fail
                    all_goals go_round
                    all_goals first
                      | exact ⟨k + 1, by omega, by rw [HSV.out], by go_num⟩
                      | (simp [intOf]; omega)
                · have e1 : decide (-1 ≤ n) = false := decide_eq_false h1
                  have HSV : Hid (toOk ts (k + 1) = false) := by show _ = _; rw [HSK.out, e1]; rfl
                  go_wp2_with fail
                  all_goals go_round
                  all_goals first
                    | exact ⟨k + 1, by omega, by rw [HSV.out], by go_num⟩
                    | (simp [intOf]; omega)
        | true =>
          have HOK := Lib.hid hok
          have HRC : Hid (∀ W', LC S W P T p t ts aT W' → Calls Tryd.prog 13 #[.agg T, .slice aT nT cT] W' fun e w' => ∃ C' : Array Value, C'.size = 13 ∧ C'.all (·.oneCell') = true ∧ e = .returned (.tuple #[.agg C', .bool (fineT t ts)]) ∧ Rep.cells (Fresh W' w') w' C'.toList (cutR t ts) ∧ Below W'.heap.size W' w') := fun W' k => by
            have hl : ts.length = t.Ins.length := by rw [HNT.out, HLI.out]
            refine (rcut_any k.t k.S k.ts k.S HNT.out (RightT.fewT HRT.out) hl (by rw [hl]; exact HOK.out) HRT.out.ahead HRT.out.loop.1).mono ?_
            rintro e w' ⟨cs, rfl, hc, hb⟩
            refine ⟨cs.toArray, rep_size (X := cs.toArray) (by simpa using hc), ?_, rfl, by simpa using hc, hb⟩
            rw [Array.all_eq_true_iff_forall_mem]
            exact fun v hv => Rep.one hc v (by simpa using hv)
          have hri : toRight t ts = true := by
            unfold toRight
            rw [hok, HNT.out, HLI.out]
            simp
          cases hfi : fineT t ts with
          | false =>
            as_aux_lemma =>
              have hg : (gt, ge) = (zeroT, 3) := by
                rw [HG.out]
                unfold cutG
                rw [hri, hfi]
                rfl
              obtain ⟨rfl, rfl⟩ : gt = zeroT ∧ ge = 3 := by injection hg with h1 h2; exact ⟨h1, h2⟩
              have HSZ2 := HSZ.out rfl
              rw [hfi] at HRC
              clear hg hok hri hfi
              go_wp2_with fail
              clear dlen
              go_loop [9, 10] (fun s9 s10 => ∃ k : Nat, k ≤ nT ∧ s9 = .bool true ∧ s10 = .int .i64 k) (fun _ s10 => nT - (intOf s10).toNat)
              case atStart => exact ⟨0, Nat.zero_le _, rfl, rfl⟩
              case round =>
                obtain ⟨k, hk, rfl, rfl⟩ := hrel
                by_cases hlt : k < nT
                · obtain ⟨b, o, n, haT, hc, hn, hlb⟩ := HTAT.out w4 k HL4.out hlt
                  subst haT
                  obtain ⟨n', hn', h1, h2⟩ := toOk_at (HOK.out) (show k < t.Ins.length by rw [HLI.out]; exact hlt)
                  obtain rfl : n' = n := Option.some.inj (hn'.symm.trans hn)
                  have e1 : decide (-1 ≤ n') = true := decide_eq_true h1
                  have e2 : decide (n' ≤ (k : Int)) = true := decide_eq_true h2
                  have hlt' : (k : Int) < nT := by omega
                  clear hn hn'
                  go_wp2_with fail
                  all_goals go_round
                  all_goals first
                    | exact ⟨k + 1, by omega, rfl, by go_num⟩
                    | (simp [intOf]; omega)
                · obtain rfl : k = nT := by omega
                  clear hlt
                  go_upto_region 10 with fail
                  generalize hw5 : w4.alloc (.cells #[.int .i64 0, .int .i64 0, .int .i64 0, .slice none 0 0, .slice none 0 0, .int .i64 0, .int .i64 0, .slice none 0 0, .slice none 0 0, .int .i64 0, .int .i64 0, .slice none 0 0, .slice none 0 0] 34) = w5
                  have HB5 : Hid (Below w4.heap.size w4 w5) := by rw [← hw5]; exact (Below.refl _ _).alloc (Nat.le_refl _) _
                  have HO5 : Hid (Row w5 w4.heap.size 34 #[.int .i64 0, .int .i64 0, .int .i64 0, .slice none 0 0, .slice none 0 0, .int .i64 0, .int .i64 0, .slice none 0 0, .slice none 0 0, .int .i64 0, .int .i64 0, .slice none 0 0, .slice none 0 0]) := by rw [← hw5]; exact row_new _ _ _
                  have HL5 : Hid (LC S W P T p t ts aT w5) := HCE.out _ (HB4.out.trans (HB5.out.mono HB4.out.size))
                  clear hw5
                  go_upto_region 12 with (first
                    | (with_reducible refine ldT rfl rfl rfl HL5.out.rt hsT ?_)
                    | (go_at_call 13; (with_reducible refine (HRC.out _ HL5.out).mono ?_); rintro e w6 ⟨C', hC1, hC2, rfl, hr6, hb6⟩; have HB6 := Lib.hid hb6; have HC1 := Lib.hid hC1; have HC2 := Lib.hid hC2; have HR6 := Lib.hid hr6; have HO6 := Lib.hid (HO5.out.keep (HB6.out.block _ HO5.out.lt)); clear hb6 hC1 hC2 hr6)
                    | (with_reducible refine stT (OLD := #[.int .i64 0, .int .i64 0, .int .i64 0, .slice none 0 0, .slice none 0 0, .int .i64 0, .int .i64 0, .slice none 0 0, .slice none 0 0, .int .i64 0, .int .i64 0, .slice none 0 0, .slice none 0 0]) (C := C') rfl rfl rfl rfl HO6.out HC1.out rfl HC2.out ?_))
                  have hl5 : w4.heap.size < w5.heap.size := HO5.out.lt
                  have HB8 : Hid (Below w4.heap.size w4 (w6.setRow w4.heap.size C')) := below_setRow (HB5.out.trans (HB6.out.mono HB5.out.size)) (Nat.le_refl _) _
                  have HS8 : Hid ((w6.setRow w4.heap.size C').heap.size = w6.heap.size) := by show _ = _; simp [World.setRow]
                  have HO8 : Hid (Row (w6.setRow w4.heap.size C') w4.heap.size 34 C') := setRow_heap _ _ _ _ _ _ HO6.out
                  have HR8 : Hid (Rep.cells (fun b => w5.heap.size ≤ b ∧ b < (w6.setRow w4.heap.size C').heap.size) (w6.setRow w4.heap.size C') C'.toList (cutR t ts)) := Rep.mono (fun b hb => ⟨hb.1, by show b < (w6.setRow w4.heap.size C').heap.size; rw [HS8.out]; exact hb.2⟩) (Rep.keep (fun b hb => setRow_other _ _ _ _ (by have := hb.1; omega)) HR6.out)
                  generalize w6.setRow w4.heap.size C' = w8 at HB8 HO8 HR8 HS8 ⊢
                  go_wp2_with (first
                    | (go_at_call 11; (with_reducible refine (HIR.out _).mono ?_); rintro e w9 ⟨rfl, hb9⟩; have HB9 := Lib.hid (HB8.out.trans (hb9.mono HB8.out.size)); have HRW9 := Lib.hid (HRW4.out.keep (HB9.out.block _ HRW4.out.lt)); clear hb9)
                    | (with_reducible refine ldT rfl rfl rfl HRW9.out hsC ?_)
                    | (go_at_call 14; (with_reducible refine (HSZ2.out _ HB9.out).mono ?_); rintro e w7 ⟨rfl, hb7⟩; have HB7 := Lib.hid (HB9.out.trans (hb7.mono HB9.out.size)); clear hb7))
                  go_ret
                  exact ⟨rfl, HL4.out.below.trans (HB7.out.mono HL4.out.below.size)⟩
          | true =>
            as_aux_lemma =>
              have hg : (gt, ge) = (cutT t ts, 0) := by
                rw [HG.out]
                unfold cutG
                rw [hri, hfi]
                rfl
              have HFI : Hid (true = fineT t ts) := hfi.symm
              obtain ⟨hgt, rfl⟩ : gt = cutT t ts ∧ ge = 0 := by injection hg with h1 h2; exact ⟨h1, h2⟩
              have HGT := Lib.hid hgt
              rw [hfi] at HRC
              clear hg hok hri hfi hgt HSZ
              go_wp2_with fail
              clear dlen
              go_loop [9, 10] (fun s9 s10 => ∃ k : Nat, k ≤ nT ∧ s9 = .bool true ∧ s10 = .int .i64 k) (fun _ s10 => nT - (intOf s10).toNat)
              case atStart => exact ⟨0, Nat.zero_le _, rfl, rfl⟩
              case round =>
                obtain ⟨k, hk, rfl, rfl⟩ := hrel
                by_cases hlt : k < nT
                · obtain ⟨b, o, n, haT, hc, hn, hlb⟩ := HTAT.out w4 k HL4.out hlt
                  subst haT
                  obtain ⟨n', hn', h1, h2⟩ := toOk_at (HOK.out) (show k < t.Ins.length by rw [HLI.out]; exact hlt)
                  obtain rfl : n' = n := Option.some.inj (hn'.symm.trans hn)
                  have e1 : decide (-1 ≤ n') = true := decide_eq_true h1
                  have e2 : decide (n' ≤ (k : Int)) = true := decide_eq_true h2
                  have hlt' : (k : Int) < nT := by omega
                  clear hn hn'
                  go_wp2_with fail
                  all_goals go_round
                  all_goals first
                    | exact ⟨k + 1, by omega, rfl, by go_num⟩
                    | (simp [intOf]; omega)
                · obtain rfl : k = nT := by omega
                  clear hlt
                  go_upto_region 10 with fail
                  generalize hw5 : w4.alloc (.cells #[.int .i64 0, .int .i64 0, .int .i64 0, .slice none 0 0, .slice none 0 0, .int .i64 0, .int .i64 0, .slice none 0 0, .slice none 0 0, .int .i64 0, .int .i64 0, .slice none 0 0, .slice none 0 0] 34) = w5
                  have HB5 : Hid (Below w4.heap.size w4 w5) := by rw [← hw5]; exact (Below.refl _ _).alloc (Nat.le_refl _) _
                  have HO5 : Hid (Row w5 w4.heap.size 34 #[.int .i64 0, .int .i64 0, .int .i64 0, .slice none 0 0, .slice none 0 0, .int .i64 0, .int .i64 0, .slice none 0 0, .slice none 0 0, .int .i64 0, .int .i64 0, .slice none 0 0, .slice none 0 0]) := by rw [← hw5]; exact row_new _ _ _
                  have HL5 : Hid (LC S W P T p t ts aT w5) := HCE.out _ (HB4.out.trans (HB5.out.mono HB4.out.size))
                  clear hw5
                  go_upto_region 12 with (first
                    | (with_reducible refine ldT rfl rfl rfl HL5.out.rt hsT ?_)
                    | (go_at_call 13; (with_reducible refine (HRC.out _ HL5.out).mono ?_); rintro e w6 ⟨C', hC1, hC2, rfl, hr6, hb6⟩; have HB6 := Lib.hid hb6; have HC1 := Lib.hid hC1; have HC2 := Lib.hid hC2; have HR6 := Lib.hid hr6; have HO6 := Lib.hid (HO5.out.keep (HB6.out.block _ HO5.out.lt)); clear hb6 hC1 hC2 hr6)
                    | (with_reducible refine stT (OLD := #[.int .i64 0, .int .i64 0, .int .i64 0, .slice none 0 0, .slice none 0 0, .int .i64 0, .int .i64 0, .slice none 0 0, .slice none 0 0, .int .i64 0, .int .i64 0, .slice none 0 0, .slice none 0 0]) (C := C') rfl rfl rfl rfl HO6.out HC1.out rfl HC2.out ?_))
                  have hl5 : w4.heap.size < w5.heap.size := HO5.out.lt
                  have HB8 : Hid (Below w4.heap.size w4 (w6.setRow w4.heap.size C')) := below_setRow (HB5.out.trans (HB6.out.mono HB5.out.size)) (Nat.le_refl _) _
                  have HS8 : Hid ((w6.setRow w4.heap.size C').heap.size = w6.heap.size) := by show _ = _; simp [World.setRow]
                  have HO8 : Hid (Row (w6.setRow w4.heap.size C') w4.heap.size 34 C') := setRow_heap _ _ _ _ _ _ HO6.out
                  have HR8 : Hid (Rep.cells (fun b => w5.heap.size ≤ b ∧ b < (w6.setRow w4.heap.size C').heap.size) (w6.setRow w4.heap.size C') C'.toList (cutR t ts)) := Rep.mono (fun b hb => ⟨hb.1, by show b < (w6.setRow w4.heap.size C').heap.size; rw [HS8.out]; exact hb.2⟩) (Rep.keep (fun b hb => setRow_other _ _ _ _ (by have := hb.1; omega)) HR6.out)
                  generalize w6.setRow w4.heap.size C' = w8 at HB8 HO8 HR8 HS8 ⊢
                  have HSY : Hid (∀ W', Below w8.heap.size w8 W' → Calls Tryd.prog 14 #[.agg C, .agg C'] W' fun e w' => e = .returned (.bool true) ∧ Below W'.heap.size W' w') := fun W' hb => by
                    refine HSM.out W' (fun b => w2.heap.size ≤ b ∧ b < w4.heap.size) (fun b => w5.heap.size ≤ b ∧ b < w8.heap.size) C C' (cutT t ts) ?_ ?_ (fun b h => ?_) (fun b h => Nat.lt_of_lt_of_le h.2 hb.size)
                    · have h := HRG.out
                      rw [HGT.out] at h
                      exact Rep.keep (fun b h => (hb.block b (Nat.lt_of_lt_of_le h.2 HB8.out.size)).trans (HB8.out.block b h.2)) h
                    · have h := HR8.out
                      rw [cutR_yes HFI.out] at h
                      exact Rep.keep (fun b h => hb.block b h.2) h
                    · exact Nat.lt_of_lt_of_le h.2 (Nat.le_trans HB8.out.size hb.size)
                  go_wp2_with (first
                    | (go_at_call 11; (with_reducible refine (HIR.out _).mono ?_); rintro e w9 ⟨rfl, hb9⟩; have HB9 := Lib.hid hb9; have HRW9 := Lib.hid (HRW4.out.keep ((hb9.block _ (Nat.lt_of_lt_of_le HRW4.out.lt HB8.out.size)).trans (HB8.out.block _ HRW4.out.lt))); have HOW9 := Lib.hid (HO8.out.keep (hb9.block _ HO8.out.lt)); clear hb9)
                    | (with_reducible refine ldT rfl rfl rfl HRW9.out hsC ?_)
                    | (with_reducible refine ldT rfl rfl rfl HOW9.out HC1.out ?_)
                    | (go_at_call 14; (with_reducible refine (HSY.out _ HB9.out).mono ?_); rintro e w7 ⟨rfl, hb7⟩; have HB7 := Lib.hid (HB8.out.trans ((HB9.out.trans (hb7.mono HB9.out.size)).mono HB8.out.size)); clear hb7))
                  go_ret
                  exact ⟨rfl, HL4.out.below.trans (HB7.out.mono HL4.out.below.size)⟩
      · as_aux_lemma =>
          have dlen : ((nT : Int) == (nI : Int)) = false := by rw [beq_eq_false_iff_ne]; omega
          have hg : (gt, ge) = (zeroT, 3) := by
            rw [HG.out]
            unfold cutG toRight
            rw [HNT.out, HLI.out, decide_eq_false hlen]
            rfl
          obtain ⟨rfl, rfl⟩ : gt = zeroT ∧ ge = 3 := by injection hg with h1 h2; exact ⟨h1, h2⟩
          have HSZ2 := HSZ.out rfl
          clear hg hlen
          go_wp2_with fail
          clear dlen
          go_loop [9, 10] (fun s9 s10 => s9 = .bool false ∧ s10 = .int .i64 0) (fun _ _ => 0)
          case atStart => exact ⟨rfl, rfl⟩
          case round =>
            obtain ⟨rfl, rfl⟩ := hrel
            go_upto_region 10 with fail
            generalize hw5 : w4.alloc (.cells #[.int .i64 0, .int .i64 0, .int .i64 0, .slice none 0 0, .slice none 0 0, .int .i64 0, .int .i64 0, .slice none 0 0, .slice none 0 0, .int .i64 0, .int .i64 0, .slice none 0 0, .slice none 0 0] 34) = w5
            have HB5 : Hid (Below w4.heap.size w4 w5) := by rw [← hw5]; exact (Below.refl _ _).alloc (Nat.le_refl _) _
            clear hw5
            go_wp2_with (first
              | (go_at_call 11; (with_reducible refine (HIR.out _).mono ?_); rintro e w6 ⟨rfl, hb6⟩; have HB6 := Lib.hid (HB5.out.trans (hb6.mono HB5.out.size)); have HRW6 := Lib.hid (HRW4.out.keep (HB6.out.block _ HRW4.out.lt)); clear hb6)
              | (with_reducible refine ldT rfl rfl rfl HRW6.out hsC ?_)
              | (go_at_call 14; (with_reducible refine (HSZ2.out _ HB6.out).mono ?_); rintro e w7 ⟨rfl, hb7⟩; have HB7 := Lib.hid (HB6.out.trans (hb7.mono HB6.out.size)); clear hb7))
            go_ret
            exact ⟨rfl, HL4.out.below.trans (HB7.out.mono HL4.out.below.size)⟩
end Go.Proofs.YtiiekmipcjpheaaDoor.cut
