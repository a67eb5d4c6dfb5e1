/- slices.SortStableFunc at events: symMergeCmpFunc where one run holds one element, walked. -/
import Derived.Test.YtjlnaiiajlahgaaStabB
import Derived.Test.YtjlnaiiajlahgaaStabC
set_option linter.unusedVariables false
set_option linter.unusedSimpArgs false
namespace Go.Proofs.Ytjlnaiiajlahgaa.stab
open Go.Bk Go.RowKit Go.Sort Go.Shelf Go.Lib Go.Bk.Stab Go.Proofs

section
variable {P : Program} {α : Type} [Inhabited α] {enc : α → List Value} {k : Nat} {w0 : World} {blk off : Nat} {d0 : Array α}
/-- What symMerge leaves. -/
def SymPost (enc : α → List Value) (k : Nat) (w0 : World) (blk off N : Nat) (key : α → Int) (d : Array α) (a b : Nat) (e : Ending) (w' : World) : Prop :=
  e = .returned (.tuple #[]) ∧ ∃ d', SWK enc k w0 blk off d' w' ∧ d'.size = N ∧ Mv key a b d d' ∧ SR key d' a b
set_option maxRecDepth 1000000 in
set_option maxHeartbeats 4000000 in
theorem sym_left (L : MLay P k) (R : RowK enc k w0 blk off d0) {key : α → Int} {cf : α → α → Int} (hcf : ∀ x y, cf x y < 0 ↔ key x < key y) {g : Nat} {W : World} {d : Array α} {N cap a b : Nat} (eg : ∀ args w, (callFunc g args).run P w = .ok (.enter g args) w) (hC : CmpLays P g #[] enc k cf blk off N w0)
    (hw : SWK enc k w0 blk off d W) (hs : d.size = N) (h0 : d0.size = N) (hab : a + 1 < b) (hb : b ≤ N) (hN : N ≤ 1000000) (hr : SR key d (a + 1) b) :
    Calls P 63 #[.slice (some ⟨blk, off, none⟩) N cap, .int .i64 a, .int .i64 ((a + 1 : Nat) : Int), .int .i64 b, .func (.func g) #[] #[]] W (SymPost enc k w0 blk off N key d a b) := by
  have mixed := L.mixed; have t3 := L.t3; have a3 := L.a3; have z3 := L.z3; have v3 := L.v3; have t4 := L.t4; have a4 := L.a4; have z4 := L.z4; have t22 := L.t22; have a22 := L.a22; have z22 := L.z22; have t25 := L.t25; have a25 := L.a25; have z25 := L.z25; have t26 := L.t26; have a26 := L.a26; have z26 := L.z26; have aE := L.aE; have zE := L.zE
  have u22 := run_underlying L.t22
  have HF : Aside _ := L.fSym
  have HW : Hid (SWK enc k w0 blk off d W ∧ d.size = N ∧ d0.size = N) := ⟨hw, hs, h0⟩
  have HR : Aside _ := R
  have HC : Aside _ := hC
  have HCF : Hid (∀ x y, cf x y < 0 ↔ key x < key y) := hcf
  have HSR := Lib.hid hr
  obtain ⟨m, hm⟩ : ∃ m, m = a + 1 := ⟨_, rfl⟩
  have d1 : ((m : Int) - (a : Int) == 1) = true := by simp; omega
  rw [← hm]
  have HM := Lib.hid hm
  have hmb : m < b := by omega
  have ham : a < m := by omega
  clear L R hw hs h0 hC hcf hr hm
  go_enter HF.out, Try.ntmps63
  go_wp2_with fail
  go_loopw [10, 11] (fun v v2 w' => ∃ i j : Nat, m ≤ i ∧ i ≤ j ∧ j ≤ b ∧ v = .int .i64 i ∧ v2 = .int .i64 j ∧ SWK enc k w0 blk off d w' ∧ (∀ t, m ≤ t → t < i → key d[t]! < key d[a]!) ∧ (∀ t, j ≤ t → t < b → key d[a]! ≤ key d[t]!)) (fun i j _ => (intOf j).toNat - (intOf i).toNat)
  case atStart => exact ⟨m, b, Nat.le_refl _, by omega, Nat.le_refl _, rfl, rfl, HW.out.1, fun t h1 h2 => by omega, fun t h1 h2 => by omega⟩
  case round =>
  obtain ⟨i, j, hmi, hij, hjb, rfl, rfl, hsw, hlo, hhi⟩ := hrel
  have HLO := Lib.hid hlo; have HHI := Lib.hid hhi
  clear hlo hhi
  by_cases hlt : i < j
  case pos =>
    obtain ⟨h, hh⟩ : ∃ h, (i + j) / 2 = h := ⟨_, rfl⟩
    have hu : ((i : Int) + (j : Int)) / 2 = (h : Int) := by omega
    have hih : i ≤ h ∧ h < j := by omega
    have hih1 := hih.1; have hih2 := hih.2
    have jz : (h : Int) < (N : Int) := by omega
    have ja : (a : Int) < (N : Int) := by omega
    have lj := fun n' os' => hsw.ld HR (HW.out.2.1.trans HW.out.2.2.symm) P h (by have := HW.out.2.1; omega) n' os'
    have lp := fun n' os' => hsw.ld HR (HW.out.2.1.trans HW.out.2.2.symm) P a (by have := HW.out.2.1; omega) n' os'
    have hcg := fun n' os' => hsw.cmp HC HW.out.2.1 d[h]! d[a]! n' os'
    have HG := Lib.hid (fun n os => hsw.grown n os)
    have hlen : (enc d[h]!).length = k := (Aside.out HR).hk _
    have hlen2 : (enc d[a]!).length = k := (Aside.out HR).hk _
    have hcf := HCF.out d[h]! d[a]!
    obtain ⟨cv, hcv⟩ : ∃ cv, cv = cf d[h]! d[a]! := ⟨_, rfl⟩
    obtain ⟨cJ, hcJ⟩ : ∃ c, c = enc d[h]! := ⟨_, rfl⟩
    obtain ⟨cP, hcP⟩ : ∃ c, c = enc d[a]! := ⟨_, rfl⟩
    rw [← hcv] at hcf hcg
    rw [← hcJ] at lj hcg hlen
    rw [← hcP] at lp hcg hlen2
    clear hcJ hcP hcv hsw hh hih
    by_cases hlv : cv < 0
    · have HKK := Lib.hid (hcf.1 hlv)
      clear hcf
      go_wp2_with fail
      go_quiet_grown (first | (go_at_fn g; refine Calls.grown_of (hcg _ _)))
      go_wp2_with fail
      go_roundw
      case rel => exact ⟨h + 1, j, by omega, by omega, hjb, by go_num, rfl, HG.out nq osq, fun t h1 h2 => by
        have hm := HM.out
        have := HSR.out.le (i := t) (j := h) (by omega) (by omega) (by omega)
        have := HKK.out
        omega, HHI.out⟩
      case measure => simp [intOf]; omega
    · have HKK : Hid (key d[a]! ≤ key d[h]!) := by show _ ≤ _; have := fun h => hlv (hcf.2 h); omega
      clear hcf
      go_wp2_with fail
      go_quiet_grown (first | (go_at_fn g; refine Calls.grown_of (hcg _ _)))
      go_wp2_with fail
      go_roundw
      case rel => exact ⟨i, h, hmi, by omega, by omega, rfl, rfl, HG.out nq osq, HLO.out, fun t h1 h2 => by
        have hm := HM.out
        have := HSR.out.le (i := h) (j := t) (by omega) h1 (by omega)
        have := HKK.out
        omega⟩
      case measure => simp [intOf]; omega
  case neg =>
  have hji : j = i := by omega
  subst hji
  have HS0 := Lib.hid hsw
  have hji2 : ¬ (j : Int) < (j : Int) := by omega
  clear hsw hlt
  go_wp2_with fail
  obtain ⟨wb, hwb⟩ : ∃ wb : World, wb = wr := ⟨_, rfl⟩
  rw [← hwb] at HS0 ⊢
  go_loopw [13] (fun v w' => ∃ (t : Nat) (dk : Array α), a ≤ t ∧ t + 1 ≤ j ∧ v = .int .i64 t ∧ SWK enc k w0 blk off dk w' ∧ dk.size = N ∧ Mv key a b d dk ∧ dk[t]! = d[a]! ∧ (∀ s, a ≤ s → s < t → dk[s]! = d[s + 1]!) ∧ (∀ s, t < s → dk[s]! = d[s]!)) (fun t _ => j - (intOf t).toNat)
  case atStart => exact ⟨a, d, Nat.le_refl _, by omega, rfl, HS0.out, HW.out.2.1, Mv.refl _ _ _, rfl, fun s h1 h2 => by omega, fun s _ => rfl⟩
  case round =>
  clear HS0
  obtain ⟨t, dk, hat, htj, rfl, hsw, hsk, hmv, he1, he2, he3⟩ := hrel
  have em : (j : Int) - 1 = ((j - 1 : Nat) : Int) := by omega
  by_cases hlt : t + 1 < j
  · have hltz : (t : Int) < ((j - 1 : Nat) : Int) := by omega
    have hltz2 : t < j - 1 := by omega
    have hwp : (t : Int) + 1 = ((t + 1 : Nat) : Int) := by omega
    have jz : (t : Int) + 1 < (N : Int) := by omega
    have jz1 : (t : Int) < (N : Int) := by omega
    have p0 : (0 : Int) ≤ (t : Int) + 1 := by omega
    have e0 : ((t : Int) + 1).toNat = t + 1 := by omega
    have lA := hsw.ld1 HR (hsk.trans HW.out.2.2.symm) P t (by omega)
    have lB := hsw.ld1 HR (hsk.trans HW.out.2.2.symm) P (t + 1) (by omega)
    have s1 := hsw.st1 HR (hsk.trans HW.out.2.2.symm) P t (by omega) dk[t + 1]!
    have s2 := hsw.st2 HR (hsk.trans HW.out.2.2.symm) P t (t + 1) (by omega) (by omega) dk[t + 1]! dk[t]!
    have HQ := Lib.hid (hsw.swapped HR t (t + 1) (by omega) (by omega))
    have HK := Lib.hid hsk; have HM2 := Lib.hid hmv; have HE1 := Lib.hid he1; have HE2 := Lib.hid he2; have HE3 := Lib.hid he3
    have lenA : (enc dk[t]!).length = k := (Aside.out HR).hk _
    have lenB : (enc dk[t + 1]!).length = k := (Aside.out HR).hk _
    obtain ⟨cA, hcA⟩ : ∃ c, c = enc dk[t]! := ⟨_, rfl⟩
    obtain ⟨cB, hcB⟩ : ∃ c, c = enc dk[t + 1]! := ⟨_, rfl⟩
    rw [← hcA] at lA s2 lenA
    rw [← hcB] at lB s1 s2 lenB
    rw [← hcA, ← hcB] at HQ
    clear hcA hcB hsw hsk hmv he1 he2 he3 hwp
    go_wp2_with fail
    go_big_region_o
    all_goals go_wp2
    go_roundw
    case rel =>
      have hK := HK.out; have hm := HM.out
      have hg := fun s => get_swp dk (i := t) (j := t + 1) (by omega) (by omega) (by omega) s
      refine ⟨t + 1, swp dk t (t + 1), by omega, by omega, by go_num, HQ.out, by rw [size_swp]; exact hK, ?_, ?_, fun s h1 h2 => ?_, fun s h1 => ?_⟩
      · rw [swp_comm dk (by omega) (by omega) (by omega)]
        refine HM2.out.trans (Mv.swp hat (by omega) (by omega) ?_)
        rw [HE3.out (t + 1) (by omega), HE1.out]
        exact HLO.out (t + 1) (by omega) (by omega)
      · rw [hg, if_neg (by omega), if_pos rfl]; exact HE1.out
      · rw [hg]
        by_cases e : s = t
        · rw [if_pos e, HE3.out (t + 1) (by omega), e]
        · rw [if_neg e, if_neg (by omega)]; exact HE2.out s h1 (by omega)
      · rw [hg, if_neg (by omega), if_neg (by omega)]; exact HE3.out s (by omega)
    case measure => simp [intOf]; omega
  · have hltz : ¬ (t : Int) < ((j - 1 : Nat) : Int) := by omega
    have hltz2 : ¬ t < j - 1 := by omega
    have HQ := Lib.hid hsw; have HK := Lib.hid hsk; have HM2 := Lib.hid hmv; have HE1 := Lib.hid he1; have HE2 := Lib.hid he2; have HE3 := Lib.hid he3
    clear hsw hsk hmv he1 he2 he3
    go_wp2_with fail
    go_end0
    have hm := HM.out
    have htj2 : t = j - 1 := by omega
    have hr := HSR.out
    exact ⟨rfl, dk, HQ.out, HK.out, HM2.out, one_left (i := j) (by have := HW.out.2.1; omega) hr (by omega) hjb (fun s h1 h2 => HLO.out s (by omega) h2) (fun s h1 h2 => HHI.out s h1 h2) (by rw [← htj2]; exact HE1.out) (fun s h1 h2 => HE2.out s h1 (by omega)) (fun s h1 h2 => HE3.out s (by omega))⟩
set_option maxRecDepth 1000000 in
set_option maxHeartbeats 4000000 in
theorem sym_right (L : MLay P k) (R : RowK enc k w0 blk off d0) {key : α → Int} {cf : α → α → Int} (hcf : ∀ x y, cf x y < 0 ↔ key x < key y) {g : Nat} {W : World} {d : Array α} {N cap a m : Nat} (eg : ∀ args w, (callFunc g args).run P w = .ok (.enter g args) w) (hC : CmpLays P g #[] enc k cf blk off N w0)
    (hw : SWK enc k w0 blk off d W) (hs : d.size = N) (h0 : d0.size = N) (ham : a + 1 < m) (hb : m < N) (hN : N ≤ 1000000) (hl : SR key d a m) :
    Calls P 63 #[.slice (some ⟨blk, off, none⟩) N cap, .int .i64 a, .int .i64 m, .int .i64 ((m + 1 : Nat) : Int), .func (.func g) #[] #[]] W (SymPost enc k w0 blk off N key d a (m + 1)) := by
  have mixed := L.mixed; have t3 := L.t3; have a3 := L.a3; have z3 := L.z3; have v3 := L.v3; have t4 := L.t4; have a4 := L.a4; have z4 := L.z4; have t22 := L.t22; have a22 := L.a22; have z22 := L.z22; have t25 := L.t25; have a25 := L.a25; have z25 := L.z25; have t26 := L.t26; have a26 := L.a26; have z26 := L.z26; have aE := L.aE; have zE := L.zE
  have u22 := run_underlying L.t22
  have HF : Aside _ := L.fSym
  have HW : Hid (SWK enc k w0 blk off d W ∧ d.size = N ∧ d0.size = N) := ⟨hw, hs, h0⟩
  have HR : Aside _ := R
  have HC : Aside _ := hC
  have HCF : Hid (∀ x y, cf x y < 0 ↔ key x < key y) := hcf
  have HSR := Lib.hid hl
  obtain ⟨b, hb2⟩ : ∃ b, b = m + 1 := ⟨_, rfl⟩
  have d1 : ((m : Int) - (a : Int) == 1) = false := by simp; omega
  have d2 : ((b : Int) - (m : Int) == 1) = true := by simp; omega
  rw [← hb2]
  have HB := Lib.hid hb2
  have hmb : m < b := by omega
  have hbN : b ≤ N := by omega
  clear L R hw hs h0 hC hcf hl hb2
  go_enter HF.out, Try.ntmps63
  go_wp2_with fail
  go_loopw [14, 15] (fun v v2 w' => ∃ i j : Nat, a ≤ i ∧ i ≤ j ∧ j ≤ m ∧ v = .int .i64 i ∧ v2 = .int .i64 j ∧ SWK enc k w0 blk off d w' ∧ (∀ t, a ≤ t → t < i → key d[t]! ≤ key d[m]!) ∧ (∀ t, j ≤ t → t < m → key d[m]! < key d[t]!)) (fun i j _ => (intOf j).toNat - (intOf i).toNat)
  case atStart => exact ⟨a, m, Nat.le_refl _, by omega, Nat.le_refl _, rfl, rfl, HW.out.1, fun t h1 h2 => by omega, fun t h1 h2 => by omega⟩
  case round =>
  obtain ⟨i, j, hmi, hij, hjb, rfl, rfl, hsw, hlo, hhi⟩ := hrel
  have HLO := Lib.hid hlo; have HHI := Lib.hid hhi
  clear hlo hhi
  by_cases hlt : i < j
  case pos =>
    obtain ⟨h, hh⟩ : ∃ h, (i + j) / 2 = h := ⟨_, rfl⟩
    have hu : ((i : Int) + (j : Int)) / 2 = (h : Int) := by omega
    have hih : i ≤ h ∧ h < j := by omega
    have hih1 := hih.1; have hih2 := hih.2
    have jz : (h : Int) < (N : Int) := by omega
    have ja : (m : Int) < (N : Int) := by omega
    have lj := fun n' os' => hsw.ld HR (HW.out.2.1.trans HW.out.2.2.symm) P h (by have := HW.out.2.1; omega) n' os'
    have lp := fun n' os' => hsw.ld HR (HW.out.2.1.trans HW.out.2.2.symm) P m (by have := HW.out.2.1; omega) n' os'
    have hcg := fun n' os' => hsw.cmp HC HW.out.2.1 d[m]! d[h]! n' os'
    have HG := Lib.hid (fun n os => hsw.grown n os)
    have hlen : (enc d[h]!).length = k := (Aside.out HR).hk _
    have hlen2 : (enc d[m]!).length = k := (Aside.out HR).hk _
    have hcf := HCF.out d[m]! d[h]!
    obtain ⟨cv, hcv⟩ : ∃ cv, cv = cf d[m]! d[h]! := ⟨_, rfl⟩
    obtain ⟨cJ, hcJ⟩ : ∃ c, c = enc d[h]! := ⟨_, rfl⟩
    obtain ⟨cP, hcP⟩ : ∃ c, c = enc d[m]! := ⟨_, rfl⟩
    rw [← hcv] at hcf hcg
    rw [← hcJ] at lj hcg hlen
    rw [← hcP] at lp hcg hlen2
    clear hcJ hcP hcv hsw hh hih
    by_cases hlv : cv < 0
    · have HKK := Lib.hid (hcf.1 hlv)
      have hdc : decide (cv < 0) = true := decide_eq_true hlv
      clear hcf
      go_wp2_with fail
      go_quiet_grown (first | (go_at_fn g; refine Calls.grown_of (hcg _ _)))
      go_wp2_with fail
      go_roundw
      case rel => exact ⟨i, h, hmi, by omega, by omega, rfl, rfl, HG.out nq osq, HLO.out, fun t h1 h2 => by
        have := HSR.out.le (i := h) (j := t) (by omega) h1 (by omega)
        have := HKK.out
        omega⟩
      case measure => simp [intOf]; omega
    · have HKK : Hid (key d[h]! ≤ key d[m]!) := by show _ ≤ _; have := fun h => hlv (hcf.2 h); omega
      have hdc : decide (cv < 0) = false := decide_eq_false hlv
      clear hcf
      go_wp2_with fail
      go_quiet_grown (first | (go_at_fn g; refine Calls.grown_of (hcg _ _)))
      go_wp2_with fail
      go_roundw
      case rel => exact ⟨h + 1, j, by omega, by omega, hjb, by go_num, rfl, HG.out nq osq, fun t h1 h2 => by
        have := HSR.out.le (i := t) (j := h) (by omega) (by omega) (by omega)
        have := HKK.out
        omega, HHI.out⟩
      case measure => simp [intOf]; omega
  case neg =>
  have hji : j = i := by omega
  subst hji
  have HS0 := Lib.hid hsw
  have hji2 : ¬ (j : Int) < (j : Int) := by omega
  clear hsw hlt
  go_wp2_with fail
  obtain ⟨wb, hwb⟩ : ∃ wb : World, wb = wr := ⟨_, rfl⟩
  rw [← hwb] at HS0 ⊢
  go_loopw [17] (fun v w' => ∃ (t : Nat) (dk : Array α), j ≤ t ∧ t ≤ m ∧ v = .int .i64 t ∧ SWK enc k w0 blk off dk w' ∧ dk.size = N ∧ Mv key a b d dk ∧ dk[t]! = d[m]! ∧ (∀ s, t < s → s ≤ m → dk[s]! = d[s - 1]!) ∧ (∀ s, s < t → dk[s]! = d[s]!)) (fun t _ => (intOf t).toNat)
  case atStart => exact ⟨m, d, hjb, Nat.le_refl _, rfl, HS0.out, HW.out.2.1, Mv.refl _ _ _, rfl, fun s h1 h2 => by omega, fun s _ => rfl⟩
  case round =>
  clear HS0
  obtain ⟨t, dk, hjt, htm, rfl, hsw, hsk, hmv, he1, he2, he3⟩ := hrel
  by_cases hlt : j < t
  · obtain ⟨tp, rfl⟩ : ∃ tp, t = tp + 1 := ⟨t - 1, by omega⟩
    have hltz : (j : Int) < (tp : Int) + 1 := by omega
    have hwp : IntKind.i64.wrap (tp : Int) = (tp : Int) := by rw [IntKind.wrap_i64]; omega
    have jz : (tp : Int) + 1 < (N : Int) := by omega
    have jz1 : (tp : Int) < (N : Int) := by omega
    have p0 : (0 : Int) ≤ (tp : Int) + 1 := by omega
    have e0 : ((tp : Int) + 1).toNat = tp + 1 := by omega
    have lA := hsw.ld1 HR (hsk.trans HW.out.2.2.symm) P tp (by omega)
    have lB := hsw.ld1 HR (hsk.trans HW.out.2.2.symm) P (tp + 1) (by omega)
    have s1 := hsw.st1 HR (hsk.trans HW.out.2.2.symm) P (tp + 1) (by omega) dk[tp]!
    have s2 := hsw.st2 HR (hsk.trans HW.out.2.2.symm) P (tp + 1) tp (by omega) (by omega) dk[tp]! dk[tp + 1]!
    have HQ := Lib.hid (hsw.swapped HR (tp + 1) tp (by omega) (by omega))
    have HK := Lib.hid hsk; have HM2 := Lib.hid hmv; have HE1 := Lib.hid he1; have HE2 := Lib.hid he2; have HE3 := Lib.hid he3
    have lenA : (enc dk[tp]!).length = k := (Aside.out HR).hk _
    have lenB : (enc dk[tp + 1]!).length = k := (Aside.out HR).hk _
    obtain ⟨cA, hcA⟩ : ∃ c, c = enc dk[tp]! := ⟨_, rfl⟩
    obtain ⟨cB, hcB⟩ : ∃ c, c = enc dk[tp + 1]! := ⟨_, rfl⟩
    rw [← hcA] at lA s1 s2 lenA
    rw [← hcB] at lB s2 lenB
    rw [← hcA, ← hcB] at HQ
    clear hcA hcB hsw hsk hmv he1 he2 he3
    go_wp2_with fail
    go_big_region_o
    all_goals go_wp2
    go_roundw
    case rel =>
      have hK := HK.out; have hB := HB.out
      have hg := fun s => get_swp dk (i := tp + 1) (j := tp) (by omega) (by omega) (by omega) s
      refine ⟨tp, swp dk (tp + 1) tp, by omega, by omega, by first | rfl | go_num | (congr 1; omega), HQ.out, by rw [size_swp]; exact hK, ?_, ?_, fun s h1 h2 => ?_, fun s h1 => ?_⟩
      · refine HM2.out.trans (Mv.swp (by omega) (by omega) (by omega) ?_)
        rw [HE3.out tp (by omega), HE1.out]
        exact HHI.out tp (by omega) (by omega)
      · rw [hg, if_neg (by omega), if_pos rfl]; exact HE1.out
      · rw [hg]
        by_cases e : s = tp + 1
        · rw [if_pos e, HE3.out tp (by omega), e]; rfl
        · rw [if_neg e, if_neg (by omega)]; exact HE2.out s (by omega) h2
      · rw [hg, if_neg (by omega), if_neg (by omega)]; exact HE3.out s (by omega)
    case measure => simp [intOf]
  · have hltz : ¬ (j : Int) < (t : Int) := by omega
    have HQ := Lib.hid hsw; have HK := Lib.hid hsk; have HM2 := Lib.hid hmv; have HE1 := Lib.hid he1; have HE2 := Lib.hid he2; have HE3 := Lib.hid he3
    clear hsw hsk hmv he1 he2 he3
    go_wp2_with fail
    go_end0
    have hB := HB.out
    have htj2 : t = j := by omega
    subst htj2
    refine ⟨rfl, dk, HQ.out, HK.out, HM2.out, ?_⟩
    rw [hB]
    exact one_right (i := t) (by have := HW.out.2.1; omega) HSR.out (by omega) hjb HLO.out HHI.out HE1.out (fun s h1 h2 => HE2.out s h1 h2) (fun s h1 h2 => HE3.out s h2)
end
end Go.Proofs.Ytjlnaiiajlahgaa.stab
