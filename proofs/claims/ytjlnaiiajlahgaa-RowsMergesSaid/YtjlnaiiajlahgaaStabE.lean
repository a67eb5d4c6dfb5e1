/- slices.SortStableFunc at events: symMergeCmpFunc, walked. -/
import Derived.Test.YtjlnaiiajlahgaaStabD
import Derived.Deep.DeepCutAuto
set_option linter.unusedVariables false
set_option linter.unusedSimpArgs false
namespace Go.Proofs.Ytjlnaiiajlahgaa.stab
open Go.Bk Go.RowKit Go.Sort Go.Shelf Go.Lib Go.Bk.Stab Go.Proofs

section
variable {P : Program} {α : Type} [Inhabited α] {enc : α → List Value} {k : Nat} {w0 : World} {blk off : Nat} {d0 : Array α}
def RotSt (enc : α → List Value) (k : Nat) (w0 : World) (blk off N : Nat) (d : Array α) (s m e : Nat) (d1 : Array α) (w : World) : Prop := SWK enc k w0 blk off d1 w ∧ d1.size = N ∧ ∀ t, t < N → d1[t]! = d[rotI s m e t]!
def PartSt (enc : α → List Value) (k : Nat) (w0 : World) (blk off N : Nat) (key : α → Int) (d1 : Array α) (a b : Nat) (d2 : Array α) (w : World) : Prop := SWK enc k w0 blk off d2 w ∧ d2.size = N ∧ Mv key a b d1 d2 ∧ SR key d2 a b
set_option maxRecDepth 1000000 in
set_option maxHeartbeats 8000000 in
theorem sym_gen (L : MLay P k) (R : RowK enc k w0 blk off d0) {key : α → Int} {cf : α → α → Int} (hcf : ∀ x y, cf x y < 0 ↔ key x < key y) {g : Nat} {W : World} {d : Array α} {N cap a m b : Nat} (eg : ∀ args w, (callFunc g args).run P w = .ok (.enter g args) w) (hC : CmpLays P g #[] enc k cf blk off N w0)
    (hw : SWK enc k w0 blk off d W) (hs : d.size = N) (h0 : d0.size = N) (ham1 : a + 1 < m) (hmb1 : m + 1 < b) (hb : b ≤ N) (hN : N ≤ 1000000) (hl : SR key d a m) (hr : SR key d m b)
    (hrec : ∀ (W' : World) (d' : Array α) (a' m' b' : Nat), a ≤ a' → b' ≤ b → b' - a' < b - a → SWK enc k w0 blk off d' W' → d'.size = N → a' < m' → m' < b' → SR key d' a' m' → SR key d' m' b' →
      Calls P 63 #[.slice (some ⟨blk, off, none⟩) N cap, .int .i64 a', .int .i64 m', .int .i64 b', .func (.func g) #[] #[]] W' (SymPost enc k w0 blk off N key d' a' b')) :
    Calls P 63 #[.slice (some ⟨blk, off, none⟩) N cap, .int .i64 a, .int .i64 m, .int .i64 b, .func (.func g) #[] #[]] W (SymPost enc k w0 blk off N key d a b) := by
  have mixed := L.mixed; have t3 := L.t3; have a3 := L.a3; have z3 := L.z3; have v3 := L.v3; have t4 := L.t4; have a4 := L.a4; have z4 := L.z4; have t22 := L.t22; have a22 := L.a22; have z22 := L.z22; have t25 := L.t25; have a25 := L.a25; have z25 := L.z25; have t26 := L.t26; have a26 := L.a26; have z26 := L.z26; have aE := L.aE; have zE := L.zE
  have eRot := L.eRot; have eSym := L.eSym
  have u22 := run_underlying L.t22
  have ham : a < m := by omega
  have hmb : m < b := by omega
  have HF : Aside _ := L.fSym
  have HW : Hid (SWK enc k w0 blk off d W ∧ d.size = N ∧ d0.size = N) := ⟨hw, hs, h0⟩
  have HR : Aside _ := R
  have HC : Aside _ := hC
  have HCF : Hid (∀ x y, cf x y < 0 ↔ key x < key y) := hcf
  have HSL := Lib.hid hl; have HSR := Lib.hid hr
  have HREC := Lib.hid hrec
  have HROT : Hid (∀ (s e : Nat) (w : World), SWK enc k w0 blk off d w → s < m → m < e → e ≤ b → Calls P 74 #[.slice (some ⟨blk, off, none⟩) N cap, .int .i64 s, .int .i64 m, .int .i64 e, .func (.func g) #[] #[]] w fun en w' => en = .returned (.tuple #[]) ∧ ∃ d1, RotSt enc k w0 blk off N d s m e d1 w') := fun s e w h1 h2 h3 h4 => rotate_any L R _ h1 hs h0 h2 h3 (by omega) hN
  obtain ⟨mid, hmid⟩ : ∃ mid, mid = (a + b) / 2 := ⟨_, rfl⟩
  have hu : ((a : Int) + (b : Int)) / 2 = (mid : Int) := by omega
  have d1 : ((m : Int) - (a : Int) == 1) = false := by simp; omega
  have d2 : ((b : Int) - (m : Int) == 1) = false := by simp; omega
  have hmidb : a < mid ∧ mid < b := by omega
  have hmb3 := hmidb.1; have hmb4 := hmidb.2
  have HMID := Lib.hid hmid
  clear L R hw hs h0 hC hcf hl hr hrec hmid hmidb
  go_enter HF.out, Try.ntmps63
  go_upto_if 140 with fail
  go_cut [20, 21] (fun s20 s21 wz => W = wz ∧ ∃ lo hi : Nat, Rng a m b mid lo hi ∧ s20 = .int .i64 lo ∧ s21 = .int .i64 hi)
  case first =>
    by_cases hmm : mid < m
    · have en : (mid : Int) + (m : Int) - (b : Int) = ((mid + m - b : Nat) : Int) := by have := HMID.out; omega
      have dm : decide (mid < m) = true := decide_eq_true hmm
      go_wp2_with fail
      go_meet
      exact ⟨rfl, mid + m - b, mid, .inr ⟨hmm, by have := HMID.out; omega, rfl⟩, rfl, rfl⟩
    · have dm : decide (mid < m) = false := decide_eq_false hmm
      go_wp2_with fail
      go_meet
      exact ⟨rfl, a, m, .inl ⟨by omega, rfl, rfl⟩, rfl, rfl⟩
  case rest =>
  obtain ⟨rfl, lo, hi, hrng, rfl, rfl⟩ := hcut
  have HRG := Lib.hid hrng
  have HFT := Lib.hid (hrng.facts ham hmb HMID.out)
  clear hrng
  go_wp2_with fail
  go_loopw [20, 21] (fun v v2 w' => ∃ s r : Nat, Sch key d a m b mid lo hi s r ∧ v = .int .i64 s ∧ v2 = .int .i64 r ∧ SWK enc k w0 blk off d w') (fun i j _ => (intOf j).toNat - (intOf i).toNat)
  case atStart => exact ⟨lo, hi, Sch.start HFT.out.2.1, rfl, rfl, HW.out.1⟩
  case round =>
  obtain ⟨s, r, hsch, rfl, rfl, hsw⟩ := hrel
  have HS := Lib.hid hsch
  have q1 := hsch.qlo; have q2 := hsch.qle; have q3 := hsch.qhi
  have hrm : r ≤ mid ∧ r ≤ m ∧ a ≤ s := by have := HFT.out; omega
  have hrm1 := hrm.1; have hrm2 := hrm.2.1; have has := hrm.2.2
  clear hsch hrm
  by_cases hlt : s < r
  case pos =>
    obtain ⟨c, hc⟩ : ∃ c, (s + r) / 2 = c := ⟨_, rfl⟩
    have hu2 : ((s : Int) + (r : Int)) / 2 = (c : Int) := by omega
    have hcs : s ≤ c ∧ c < r := by omega
    have hc1 := hcs.1; have hc2 := hcs.2
    obtain ⟨pc, hpc⟩ : ∃ pc, pc = mid + m - 1 - c := ⟨_, rfl⟩
    have epc : (mid : Int) + (m : Int) - 1 - (c : Int) = (pc : Int) := by omega
    have hpcN : pc < N := by
      have := HFT.out; have := HMID.out
      rcases HRG.out with ⟨e1, e2, e3⟩ | ⟨e1, e2, e3⟩ <;> omega
    have jz : (c : Int) < (N : Int) := by omega
    have hwpc : IntKind.i64.wrap (pc : Int) = (pc : Int) := by rw [IntKind.wrap_i64]; omega
    have jp : (pc : Int) < (N : Int) := by omega
    have HPC := Lib.hid hpc
    have lj := fun n' os' => hsw.ld HR (HW.out.2.1.trans HW.out.2.2.symm) P c (by have := HW.out.2.1; omega) n' os'
    have lp := fun n' os' => hsw.ld HR (HW.out.2.1.trans HW.out.2.2.symm) P pc (by have := HW.out.2.1; omega) n' os'
    have hcg := fun n' os' => hsw.cmp HC HW.out.2.1 d[pc]! d[c]! n' os'
    have HG := Lib.hid (fun n os => hsw.grown n os)
    have hlen : (enc d[c]!).length = k := (Aside.out HR).hk _
    have hlen2 : (enc d[pc]!).length = k := (Aside.out HR).hk _
    have hcf := HCF.out d[pc]! d[c]!
    obtain ⟨cv, hcv⟩ : ∃ cv, cv = cf d[pc]! d[c]! := ⟨_, rfl⟩
    obtain ⟨cJ, hcJ⟩ : ∃ c', c' = enc d[c]! := ⟨_, rfl⟩
    obtain ⟨cP, hcP⟩ : ∃ c', c' = enc d[pc]! := ⟨_, rfl⟩
    rw [← hcv] at hcf hcg
    rw [← hcJ] at lj hcg hlen
    rw [← hcP] at lp hcg hlen2
    clear hcJ hcP hcv hsw hc hcs hpc
    by_cases hlv : cv < 0
    · have HKK := Lib.hid (hcf.1 hlv)
      have hdc : decide (cv < 0) = true := decide_eq_true hlv
      clear hcf
      go_wp2_with fail
      go_quiet_grown (first | (go_at_fn g; refine Calls.grown_of (hcg _ _)))
      go_wp2_with fail
      go_roundw
      case rel => exact ⟨s, c, HS.out.down HRG.out ham hmb HMID.out HSL.out HSR.out hc1 hc2 (by rw [← HPC.out]; exact HKK.out), rfl, rfl, HG.out nq osq⟩
      case measure => simp [intOf]; omega
    · have HKK : Hid (key d[c]! ≤ key d[pc]!) := by show _ ≤ _; have := fun h => hlv (hcf.2 h); omega
      have hdc : decide (cv < 0) = false := decide_eq_false hlv
      clear hcf
      go_wp2_with fail
      go_quiet_grown (first | (go_at_fn g; refine Calls.grown_of (hcg _ _)))
      go_wp2_with fail
      go_roundw
      case rel => exact ⟨c + 1, r, HS.out.up HRG.out ham hmb HMID.out HSL.out HSR.out hc1 hc2 (by rw [← HPC.out]; exact HKK.out), by go_num, rfl, HG.out nq osq⟩
      case measure => simp [intOf]; omega
  case neg =>
  have hsr : r = s := by omega
  subst hsr
  obtain ⟨e, he⟩ : ∃ e, e = mid + m - r := ⟨_, rfl⟩
  have ee : (mid : Int) + (m : Int) - (r : Int) = (e : Int) := by omega
  have hes : e + r = mid + m := by omega
  have heb : m ≤ e ∧ e ≤ b ∧ mid ≤ e := by have := HFT.out; omega
  have HE2 := Lib.hid heb
  have iA : r < m ↔ mid < e := by omega
  have iB : m < e ↔ r < mid := by omega
  have HES := Lib.hid hes
  have HRUN : Hid (∀ d1 : Array α, (∀ t, t < N → d1[t]! = d[rotI r m e t]!) → SR key d1 a r ∧ SR key d1 r mid ∧ SR key d1 mid e ∧ SR key d1 e b ∧ ∀ i j, a ≤ i → i < mid → mid ≤ j → j < b → key d1[i]! ≤ key d1[j]!) := fun d1 h => by
    have hsz := HW.out.2.1
    exact sym_runs HS.out HRG.out ham hmb HMID.out (by omega) HSL.out HSR.out hes (by rw [hsz]; exact h)
  have HMV : Hid (∀ d1 : Array α, d1.size = N → (∀ t, t < N → d1[t]! = d[rotI r m e t]!) → Mv key a b d d1) := fun d1 h1 h2 => by
    have hsz := HW.out.2.1
    exact (Mv.rot (by omega) heb.1 (by omega) (h1.trans hsz.symm) (by rw [hsz]; exact h2) (HS.out.turn HRG.out ham hmb HMID.out HSL.out HSR.out hes)).wide has heb.2.1
  have HX0 : Hid (¬ (r < m ∧ m < e) → RotSt enc k w0 blk off N d r m e d wr) := fun h => ⟨hsw, HW.out.2.1, fun t ht => by
    unfold rotI
    (repeat' split) <;> first | rfl | (exfalso; omega) | (congr 1; omega)⟩
  have HROT2 : Hid (r < m → m < e → Calls P 74 #[.slice (some ⟨blk, off, none⟩) N cap, .int .i64 r, .int .i64 m, .int .i64 e, .func (.func g) #[] #[]] wr fun en w' => en = .returned (.tuple #[]) ∧ ∃ d1, RotSt enc k w0 blk off N d r m e d1 w') := fun h1 h2 => HROT.out r e wr hsw h1 h2 heb.2.1
  have HS1 : Hid (∀ d1 w, RotSt enc k w0 blk off N d r m e d1 w → a < r → r < mid → Calls P 63 #[.slice (some ⟨blk, off, none⟩) N cap, .int .i64 a, .int .i64 r, .int .i64 mid, .func (.func g) #[] #[]] w (fun en w' => en = .returned (.tuple #[]) ∧ ∃ d2, PartSt enc k w0 blk off N key d1 a mid d2 w')) := fun d1 w h h1 h2 => by
    have hu := HRUN.out d1 h.2.2
    exact HREC.out w d1 a r mid (Nat.le_refl _) (by omega) (by omega) h.1 h.2.1 h1 h2 hu.1 hu.2.1
  have HY0 : Hid (∀ d1 w, RotSt enc k w0 blk off N d r m e d1 w → ¬ (a < r ∧ r < mid) → PartSt enc k w0 blk off N key d1 a mid d1 w) := fun d1 w h hn => by
    have hu := HRUN.out d1 h.2.2
    refine ⟨h.1, h.2.1, Mv.refl _ _ _, ?_⟩
    by_cases c1 : a < r
    · rw [show mid = r by omega]; exact hu.1
    · rw [show a = r by omega]; exact hu.2.1
  have HSRR : Hid (∀ d1 w1 d2 w, RotSt enc k w0 blk off N d r m e d1 w1 → PartSt enc k w0 blk off N key d1 a mid d2 w → SR key d2 mid e ∧ SR key d2 e b) := fun d1 w1 d2 w h h2 => by
    have hu := HRUN.out d1 h.2.2
    exact ⟨hu.2.2.1.same fun t t1 t2 => h2.2.2.1.out t (.inr t1), hu.2.2.2.1.same fun t t1 t2 => h2.2.2.1.out t (.inr (by omega))⟩
  have HS2 : Hid (∀ d1 w1 d2 w, RotSt enc k w0 blk off N d r m e d1 w1 → PartSt enc k w0 blk off N key d1 a mid d2 w → mid < e → e < b → Calls P 63 #[.slice (some ⟨blk, off, none⟩) N cap, .int .i64 mid, .int .i64 e, .int .i64 b, .func (.func g) #[] #[]] w (fun en w' => en = .returned (.tuple #[]) ∧ ∃ d3, PartSt enc k w0 blk off N key d2 mid b d3 w')) := fun d1 w1 d2 w h h2 h3 h4 => by
    have hu := HSRR.out d1 w1 d2 w h h2
    exact HREC.out w d2 mid e b (by omega) (Nat.le_refl _) (by omega) h2.1 h2.2.1 h3 h4 hu.1 hu.2
  have HZ0 : Hid (∀ d1 w1 d2 w, RotSt enc k w0 blk off N d r m e d1 w1 → PartSt enc k w0 blk off N key d1 a mid d2 w → ¬ (mid < e ∧ e < b) → PartSt enc k w0 blk off N key d2 mid b d2 w) := fun d1 w1 d2 w h h2 hn => by
    have hu := HSRR.out d1 w1 d2 w h h2
    refine ⟨h2.1, h2.2.1, Mv.refl _ _ _, ?_⟩
    by_cases c1 : mid < e
    · rw [show b = e by omega]; exact hu.1
    · rw [show mid = e by omega]; exact hu.2
  have HFIN : Hid (∀ d1 w1 d2 w2 d3 w3, RotSt enc k w0 blk off N d r m e d1 w1 → PartSt enc k w0 blk off N key d1 a mid d2 w2 → PartSt enc k w0 blk off N key d2 mid b d3 w3 → SymPost enc k w0 blk off N key d a b (.returned (.tuple #[])) w3) := fun d1 w1 d2 w2 d3 w3 h1 h2 h3 => by
    have hu := HRUN.out d1 h1.2.2
    obtain ⟨k1, k2⟩ := sym_join (HMV.out d1 h1.2.1 h1.2.2) hu.2.2.2.2 h2.2.2.1 h2.2.2.2 h3.2.2.1 h3.2.2.2 (by omega) (by omega)
    exact ⟨rfl, d3, h3.1, h3.2.1, k1, k2⟩
  clear hsw he hes heb q1 q2 q3 hlt
  by_cases hA : r < m <;> by_cases hB : m < e <;> by_cases hC : a < r <;> by_cases hD : e < b
  all_goals
    first | have hA2 := iA.mp hA | have hA2 := mt iA.mpr hA
    first | have hB2 := iB.mp hB | have hB2 := mt iB.mpr hB
    have HB := Lib.hid (And.intro hA2 hB2)
    clear iA iB
    try have HX := Lib.hid (HX0.out (fun h => by first | exact hA h.1 | exact hB h.2))
    have hrr : ¬ (r : Int) < (r : Int) := by omega
    go_wp2_with (first
      | (go_at_call 74; (with_reducible refine (HROT2.out hA hB).mono ?_); rintro en w7 ⟨rfl, d1, h1⟩; have HX := Lib.hid h1; clear h1)
      | (go_at_call 63; (with_reducible refine (HS1.out _ _ HX.out hC hB2).mono ?_); rintro en w8 ⟨rfl, d2, h1⟩; have HY := Lib.hid h1; clear h1)
      | (go_at_call 63; (with_reducible refine (HS2.out _ _ _ _ HX.out HY.out hA2 hD).mono ?_); rintro en w9 ⟨rfl, d3, h1⟩; have HZ := Lib.hid h1; clear h1)
      | (go_at_call 63; have HY := Lib.hid (HY0.out _ _ HX.out (fun h => by first | exact hC h.1 | exact hB2 h.2)); (with_reducible refine (HS2.out _ _ _ _ HX.out HY.out hA2 hD).mono ?_); rintro en w9 ⟨rfl, d3, h1⟩; have HZ := Lib.hid h1; clear h1))
    go_end0
    try have HY := Lib.hid (HY0.out _ _ HX.out (fun h => by first | exact hC h.1 | exact hB2 h.2))
    try have HZ := Lib.hid (HZ0.out _ _ _ _ HX.out HY.out (fun h => by first | exact hA2 h.1 | exact hD h.2))
    exact HFIN.out _ _ _ _ _ _ HX.out HY.out HZ.out
end
end Go.Proofs.Ytjlnaiiajlahgaa.stab
