/- slices.SortStableFunc at events: insertionSortCmpFunc, walked over whatever program bears it: equals keep their order. -/
import Derived.Test.YtjlnaiiajlahgaaStabA
set_option linter.unusedVariables false
set_option linter.unusedSimpArgs false
namespace Go.Proofs.Ytjlnaiiajlahgaa.stab
open Go.Bk Go.RowKit Go.Sort Go.Shelf Go.Lib Go.Bk.Stab Go.Proofs

section
variable {P : Program} {α : Type} [Inhabited α] {enc : α → List Value} {k : Nat} {w0 : World} {blk off : Nat} {d0 : Array α}
/-- What moves down in an insertion. -/
structure InsK (key : α → Int) (a j i : Nat) (d : Array α) : Prop where
  rest : ∀ p q, a ≤ p → p < q → q ≤ i → p ≠ j → q ≠ j → key d[p]! ≤ key d[q]!
  right : ∀ q, j < q → q ≤ i → key d[j]! < key d[q]!
theorem InsK.done {key : α → Int} {a j i : Nat} {d : Array α} (h : InsK key a j i d) (hs : j ≤ a ∨ key d[j - 1]! ≤ key d[j]!) : SR key d a (i + 1) := fun p q h1 h2 h3 => by
  by_cases e : p = j
  · subst e
    have := h.right q h2 (by omega)
    omega
  · by_cases e2 : q = j
    · subst e2
      rcases hs with hs | hs
      · omega
      · by_cases e3 : p = q - 1
        · rw [e3]; exact hs
        · have := h.rest p (q - 1) h1 (by omega) (by omega) e (by omega)
          omega
    · exact h.rest p q h1 h2 (by omega) e e2
theorem InsK.step {key : α → Int} {a j i : Nat} {d : Array α} (h : InsK key a (j + 1) i d) (hj : a ≤ j) (hi : j + 1 ≤ i) (hl : i < d.size) (hk : key d[j + 1]! < key d[j]!) : InsK key a j i (swp d (j + 1) j) := by
  have hg := fun t => get_swp d (i := j + 1) (j := j) (by omega) (by omega) (by omega) t
  refine ⟨fun p q h1 h2 h3 h4 h5 => ?_, fun q h1 h2 => ?_⟩
  · rw [hg p, hg q]
    by_cases e1 : p = j + 1
    · rw [if_pos e1, if_neg (by omega), if_neg h5]
      exact h.rest j q hj (by omega) h3 (by omega) (by omega)
    · rw [if_neg e1, if_neg h4]
      by_cases e2 : q = j + 1
      · rw [if_pos e2]
        exact h.rest p j h1 (by omega) (by omega) e1 (by omega)
      · rw [if_neg e2, if_neg h5]
        exact h.rest p q h1 h2 h3 e1 e2
  · rw [hg j, hg q, if_neg (by omega), if_pos rfl]
    by_cases e : q = j + 1
    · rw [if_pos e]; exact hk
    · rw [if_neg e, if_neg (by omega)]
      exact h.right q (by omega) h2
theorem InsK.start {key : α → Int} {a i : Nat} {d : Array α} (h : SR key d a i) : InsK key a i i d := ⟨fun p q h1 h2 h3 h4 h5 => h p q h1 h2 (by omega), fun q h1 h2 => by omega⟩
set_option maxRecDepth 1000000 in
set_option maxHeartbeats 4000000 in
theorem ins_any (L : MLay P k) (R : RowK enc k w0 blk off d0) {key : α → Int} {cf : α → α → Int} (hcf : ∀ x y, cf x y < 0 ↔ key x < key y) {g : Nat} {W : World} {d : Array α} {N cap a b : Nat} (eg : ∀ args w, (callFunc g args).run P w = .ok (.enter g args) w) (hC : CmpLays P g #[] enc k cf blk off N w0)
    (hw : SWK enc k w0 blk off d W) (hs : d.size = N) (h0 : d0.size = N) (hab : a ≤ b) (hb : b ≤ N) (hN : N ≤ 1000000) :
    Calls P 62 #[.slice (some ⟨blk, off, none⟩) N cap, .int .i64 a, .int .i64 b, .func (.func g) #[] #[]] W fun e w' =>
      e = .returned (.tuple #[]) ∧ ∃ d', SWK enc k w0 blk off d' w' ∧ d'.size = N ∧ Mv key a b d d' ∧ SR key d' a b := by
  have mixed := L.mixed; have t3 := L.t3; have a3 := L.a3; have z3 := L.z3; have v3 := L.v3; have t4 := L.t4; have a4 := L.a4; have z4 := L.z4; have t22 := L.t22; have a22 := L.a22; have z22 := L.z22; have t25 := L.t25; have a25 := L.a25; have z25 := L.z25; have aE := L.aE; have zE := L.zE
  have u22 := run_underlying L.t22
  have HF : Aside _ := L.fIns
  have HW : Hid (SWK enc k w0 blk off d W ∧ d.size = N ∧ d0.size = N) := ⟨hw, hs, h0⟩
  have HR : Aside _ := R
  have HC : Aside _ := hC
  have HCF : Hid (∀ x y, cf x y < 0 ↔ key x < key y) := hcf
  clear L R hw hs h0 hC hcf
  go_enter HF.out, Try.ntmps62
  go_wp2
  go_loopw [8] (fun v w' => ∃ (i : Nat) (dk : Array α), a < i ∧ (i ≤ b ∨ i = a + 1) ∧ v = .int .i64 i ∧ SWK enc k w0 blk off dk w' ∧ dk.size = N ∧ Mv key a b d dk ∧ SR key dk a i) (fun i _ => b + 1 - (intOf i).toNat)
  case atStart => exact ⟨a + 1, d, by omega, .inr rfl, by go_num, HW.out.1, HW.out.2.1, Mv.refl _ _ _, SR.one _ (Nat.le_refl _)⟩
  case round =>
  obtain ⟨i, dk, hai, hib, rfl, hsw, hsk, hmv, hsr⟩ := hrel
  by_cases hlt : i < b
  case neg =>
    have hltz : ¬ (i : Int) < (b : Int) := by omega
    go_wp2
    go_end0
    exact ⟨rfl, dk, hsw, hsk, hmv, hsr.less (Nat.le_refl _) (by omega)⟩
  case pos =>
  have hltz : (i : Int) < (b : Int) := by omega
  have HK := Lib.hid hsw; have HS := Lib.hid hsk; have HM := Lib.hid hmv; have HO := Lib.hid hsr
  clear hsw hsk hmv hsr
  go_wp2_with fail
  go_loopw [9] (fun v w' => ∃ (j : Nat) (dj : Array α), a ≤ j ∧ j ≤ i ∧ v = .int .i64 j ∧ SWK enc k w0 blk off dj w' ∧ dj.size = N ∧ Mv key a b d dj ∧ InsK key a j i dj) (fun j _ => (intOf j).toNat)
  case atStart => exact ⟨i, dk, by omega, Nat.le_refl _, rfl, HK.out, HS.out, HM.out, InsK.start HO.out⟩
  case round =>
  clear HK HS HM HO
  obtain ⟨j, dj, haj, hji, rfl, hsw, hsk, hmv, hin⟩ := hrel
  by_cases hja : a < j
  case neg =>
    have hjaz : decide ((j : Int) > (a : Int)) = false := decide_eq_false (by omega)
    have hjaz' : ¬ (a : Int) < (j : Int) := by omega
    have HQ := Lib.hid hsw.drew; have HS := Lib.hid hsk; have HM := Lib.hid hmv; have HI := Lib.hid (hin.done (.inl (by omega)))
    clear hsw hsk hmv hin
    go_wp2_with fail
    go_big_region_o
    all_goals go_wp2
    go_roundw
    case rel => exact ⟨i + 1, dj, by omega, .inl (by omega), by go_num, HQ.out, HS.out, HM.out, HI.out⟩
    case measure => simp [intOf]; omega
  case pos =>
  obtain ⟨jp, rfl⟩ : ∃ jp, j = jp + 1 := ⟨j - 1, by omega⟩
  have hjaz : (a : Int) < ((jp + 1 : Nat) : Int) := by omega
  have hwp : IntKind.i64.wrap (jp : Int) = (jp : Int) := by rw [IntKind.wrap_i64]; omega
  have jz : (jp : Int) + 1 < (N : Int) := by omega
  have jz1 : (jp : Int) < (N : Int) := by omega
  have hjaz' : (a : Int) < (jp : Int) + 1 := by omega
  have p0 : (0 : Int) ≤ (jp : Int) + 1 := by omega
  have e0 : ((jp : Int) + 1).toNat = jp + 1 := by omega
  have lj := fun n' os' => hsw.ld HR (hsk.trans HW.out.2.2.symm) P (jp + 1) (by omega) n' os'
  have lp := fun n' os' => hsw.ld HR (hsk.trans HW.out.2.2.symm) P jp (by omega) n' os'
  have hcg := fun n' os' => hsw.cmp HC hsk dj[jp + 1]! dj[jp]! n' os'
  have HG := Lib.hid (fun n os => hsw.grown n os)
  have HS := Lib.hid hsk; have HM := Lib.hid hmv; have HI := Lib.hid hin
  have hlen : (enc dj[jp + 1]!).length = k := (Aside.out HR).hk _
  have hlen2 : (enc dj[jp]!).length = k := (Aside.out HR).hk _
  have hcf := HCF.out dj[jp + 1]! dj[jp]!
  obtain ⟨cv, hcv⟩ : ∃ cv, cv = cf dj[jp + 1]! dj[jp]! := ⟨_, rfl⟩
  obtain ⟨cJ, hcJ⟩ : ∃ c, c = enc dj[jp + 1]! := ⟨_, rfl⟩
  obtain ⟨cP, hcP⟩ : ∃ c, c = enc dj[jp]! := ⟨_, rfl⟩
  rw [← hcv] at hcf hcg
  rw [← hcJ] at lj hcg hlen
  rw [← hcP] at lp hcg hlen2
  have CC : Hid (cJ = enc dj[jp + 1]! ∧ cP = enc dj[jp]!) := ⟨hcJ, hcP⟩
  clear hcJ hcP hcv hsw hsk hmv hin
  by_cases hlv : cv < 0
  · have hkk := hcf.1 hlv
    have HKK := Lib.hid hkk
    clear hcf hkk
    go_wp2_with fail
    go_quiet_grown (first | (go_at_fn g; refine Calls.grown_of (hcg _ _)))
    go_wp2_with fail
    have hsw2 := HG.out nq osq
    clear lj lp hcg
    generalize grow (wr.drewN nq) osq = wq2 at hsw2 ⊢
    have lj2 := hsw2.ld1 HR (HS.out.trans HW.out.2.2.symm) P (jp + 1) (by have := HS.out; omega)
    have lp2 := hsw2.ld1 HR (HS.out.trans HW.out.2.2.symm) P jp (by have := HS.out; omega)
    have s1 := hsw2.st1 HR (HS.out.trans HW.out.2.2.symm) P (jp + 1) (by have := HS.out; omega) dj[jp]!
    have s2 := hsw2.st2 HR (HS.out.trans HW.out.2.2.symm) P (jp + 1) jp (by have := HS.out; omega) (by have := HS.out; omega) dj[jp]! dj[jp + 1]!
    have HQ := Lib.hid (hsw2.swapped HR (jp + 1) jp (by have := HS.out; omega) (by have := HS.out; omega))
    rw [← CC.out.1] at lj2 s2
    rw [← CC.out.2] at lp2 s1 s2
    rw [← CC.out.1, ← CC.out.2] at HQ
    clear hsw2
    go_big_region_o
    all_goals go_wp2
    go_roundw
    case rel => exact ⟨jp, swp dj (jp + 1) jp, by omega, by omega, by first | rfl | go_num | (congr 1; omega), HQ.out, by rw [size_swp]; exact HS.out, HM.out.trans (Mv.swp (by omega) (by omega) (by have := HS.out; omega) HKK.out), HI.out.step (by omega) (by omega) (by have := HS.out; omega) HKK.out⟩
    case measure => simp [intOf]
  · have hkk : key dj[jp]! ≤ key dj[jp + 1]! := by
      have := fun h => hlv (hcf.2 h)
      omega
    have HKK := Lib.hid (HI.out.done (.inr hkk))
    clear hcf hkk
    go_wp2_with fail
    go_quiet_grown (first | (go_at_fn g; refine Calls.grown_of (hcg _ _)))
    go_wp2
    go_roundw
    case rel => exact ⟨i + 1, dj, by omega, .inl (by omega), by go_num, HG.out nq osq, HS.out, HM.out, HKK.out⟩
    case measure => simp [intOf]; omega
end
end Go.Proofs.Ytjlnaiiajlahgaa.stab
