/- slices.SortStableFunc at events: stableCmpFunc, walked. -/
import Derived.Test.YtjlnaiiajlahgaaStabE
set_option linter.unusedVariables false
set_option linter.unusedSimpArgs false
namespace Go.Bk.Stab
section
variable {α : Type} [Inhabited α] {key : α → Int}
theorem dvd_step {bs t a : Nat} (h1 : bs ∣ t) (h2 : bs ∣ a) (h : t < a) : t + bs ≤ a := by
  obtain ⟨q, rfl⟩ := h1
  obtain ⟨r, rfl⟩ := h2
  have : q < r := Nat.lt_of_mul_lt_mul_left h
  have := Nat.mul_le_mul_left bs (show q + 1 ≤ r from this)
  rw [Nat.mul_add, Nat.mul_one] at this
  exact this
/-- From lo to hi each block of bs rises. -/
def Blks (key : α → Int) (bs lo hi : Nat) (d : Array α) : Prop := ∀ t, bs ∣ t → lo ≤ t → t < hi → SR key d t (min (t + bs) hi)
theorem Blks.nil (bs lo : Nat) (d : Array α) : Blks key bs lo lo d := fun t _ h1 h2 => by omega
theorem Blks.step {bs a b : Nat} {d d2 : Array α} (h : Blks key bs 0 a d) (ha : bs ∣ a) (hm : Mv key a b d d2) (hs : SR key d2 a b) (hb : b ≤ a + bs) (hab : a ≤ b) : Blks key bs 0 b d2 := fun t h1 h2 h3 => by
  by_cases c : t < a
  · have := dvd_step h1 ha c
    have h4 := h t h1 h2 c
    rw [show min (t + bs) b = t + bs by omega]
    rw [show min (t + bs) a = t + bs by omega] at h4
    exact h4.same fun u u1 u2 => hm.out u (.inl (by omega))
  · have : t = a := by
      rcases Nat.lt_or_ge a t with g | g
      · have := dvd_step ha h1 g; omega
      · omega
    subst this
    exact hs.less (Nat.le_refl _) (by omega)
theorem Blks.rest {bs a b n : Nat} {d d2 : Array α} (h : Blks key bs a n d) (hm : Mv key a b d d2) (hab : a ≤ b) : Blks key bs b n d2 := fun t h1 h2 h3 =>
  (h t h1 (by omega) h3).same fun u u1 u2 => hm.out u (.inr (by omega))
theorem Blks.less {bs a b n : Nat} {d : Array α} (h : Blks key bs a n d) (hab : a ≤ b) : Blks key bs b n d := fun t h1 h2 h3 => h t h1 (by omega) h3
theorem Blks.two {bs a n : Nat} {d : Array α} (h : Blks key bs a n d) (ha : 2 * bs ∣ a) (hb : a + 2 * bs ≤ n) (h1 : 1 ≤ bs) : SR key d a (a + bs) ∧ SR key d (a + bs) (a + 2 * bs) := by
  have hd : bs ∣ a := Nat.dvd_trans ⟨2, by omega⟩ ha
  have g1 := h a hd (Nat.le_refl _) (by omega)
  have g2 := h (a + bs) (Nat.dvd_add hd (Nat.dvd_refl _)) (by omega) (by omega)
  rw [show min (a + bs) n = a + bs by omega] at g1
  rw [show min (a + bs + bs) n = a + 2 * bs by omega] at g2
  exact ⟨g1, g2⟩
theorem Blks.end2 {bs a n : Nat} {d : Array α} (h : Blks key bs a n d) (ha : 2 * bs ∣ a) (hb : n < a + 2 * bs) (hm : a + bs < n) (h1 : 1 ≤ bs) : SR key d a (a + bs) ∧ SR key d (a + bs) n := by
  have hd : bs ∣ a := Nat.dvd_trans ⟨2, by omega⟩ ha
  have g1 := h a hd (Nat.le_refl _) (by omega)
  have g2 := h (a + bs) (Nat.dvd_add hd (Nat.dvd_refl _)) (by omega) (by omega)
  rw [show min (a + bs) n = a + bs by omega] at g1
  rw [show min (a + bs + bs) n = n by omega] at g2
  exact ⟨g1, g2⟩
theorem Blks.end1 {bs a n : Nat} {d : Array α} (h : Blks key bs a n d) (ha : 2 * bs ∣ a) (hm : n ≤ a + bs) (han : a ≤ n) : SR key d a n := by
  have hd : bs ∣ a := Nat.dvd_trans ⟨2, by omega⟩ ha
  rcases Nat.lt_or_ge a n with c | c
  · have g1 := h a hd (Nat.le_refl _) c
    rw [show min (a + bs) n = n by omega] at g1
    exact g1
  · exact SR.one _ (by omega)
theorem Blks.all {bs n : Nat} {d : Array α} (h : Blks key bs 0 n d) (hn : n ≤ bs) : SR key d 0 n := by
  rcases Nat.eq_zero_or_pos n with c | c
  · rw [c]; exact SR.one _ (by omega)
  · have g := h 0 (Nat.dvd_zero _) (Nat.le_refl _) c
    rw [show min (0 + bs) n = n by omega] at g
    exact g
end
end Go.Bk.Stab
namespace Go.Proofs.Ytjlnaiiajlahgaa.stab
open Go.Bk Go.RowKit Go.Sort Go.Shelf Go.Lib Go.Bk.Stab Go.Proofs

section
variable {P : Program} {α : Type} [Inhabited α] {enc : α → List Value} {k : Nat} {w0 : World} {blk off : Nat} {d0 : Array α}
theorem sym_any (L : MLay P k) (R : RowK enc k w0 blk off d0) {key : α → Int} {cf : α → α → Int} (hcf : ∀ x y, cf x y < 0 ↔ key x < key y) {g : Nat} {N cap : Nat} (eg : ∀ args w, (callFunc g args).run P w = .ok (.enter g args) w) (hC : CmpLays P g #[] enc k cf blk off N w0)
    (h0 : d0.size = N) (hN : N ≤ 1000000) : ∀ (n : Nat) (W : World) (d : Array α) (a m b : Nat), b - a ≤ n → SWK enc k w0 blk off d W → d.size = N → a < m → m < b → b ≤ N → SR key d a m → SR key d m b →
    Calls P 63 #[.slice (some ⟨blk, off, none⟩) N cap, .int .i64 a, .int .i64 m, .int .i64 b, .func (.func g) #[] #[]] W (SymPost enc k w0 blk off N key d a b)
  | 0, _, _, _, _, _, hn, _, _, h1, h2, _, _, _ => by omega
  | n + 1, W, d, a, m, b, hn, hw, hs, h1, h2, hb, hl, hr => by
    by_cases c1 : m = a + 1
    · subst c1
      exact sym_left L R hcf eg hC hw hs h0 h2 hb hN hr
    · by_cases c2 : b = m + 1
      · subst c2
        exact sym_right L R hcf eg hC hw hs h0 (by omega) (by omega) hN hl
      · exact sym_gen L R hcf eg hC hw hs h0 (by omega) (by omega) hb hN hl hr fun W' d' a' m' b' g1 g2 g3 g4 g5 g6 g7 g8 g9 =>
          sym_any L R hcf eg hC h0 hN n W' d' a' m' b' (by omega) g4 g5 g6 g7 (by omega) g8 g9
set_option maxRecDepth 1000000 in
set_option maxHeartbeats 4000000 in
theorem stable_any (L : MLay P k) (R : RowK enc k w0 blk off d0) {key : α → Int} {cf : α → α → Int} (hcf : ∀ x y, cf x y < 0 ↔ key x < key y) {g : Nat} {W : World} {d : Array α} {N cap : Nat} (eg : ∀ args w, (callFunc g args).run P w = .ok (.enter g args) w) (hC : CmpLays P g #[] enc k cf blk off N w0)
    (hw : SWK enc k w0 blk off d W) (hs : d.size = N) (h0 : d0.size = N) (hN : N ≤ 100000) :
    Calls P 58 #[.slice (some ⟨blk, off, none⟩) N cap, .int .i64 N, .func (.func g) #[] #[]] W (SymPost enc k w0 blk off N key d 0 N) := by
  have mixed := L.mixed; have t3 := L.t3; have a3 := L.a3; have z3 := L.z3; have v3 := L.v3; have t4 := L.t4; have a4 := L.a4; have z4 := L.z4; have t22 := L.t22; have a22 := L.a22; have z22 := L.z22; have t25 := L.t25; have a25 := L.a25; have z25 := L.z25; have aE := L.aE; have zE := L.zE
  have eIns := L.eIns; have eSym := L.eSym
  have u22 := run_underlying L.t22
  have HF : Aside _ := L.fStable
  have HW : Hid (SWK enc k w0 blk off d W ∧ d.size = N) := ⟨hw, hs⟩
  have HINS : Hid (∀ (w : World) (dk : Array α) (a b : Nat), SWK enc k w0 blk off dk w → dk.size = N → a ≤ b → b ≤ N → Calls P 62 #[.slice (some ⟨blk, off, none⟩) N cap, .int .i64 a, .int .i64 b, .func (.func g) #[] #[]] w (SymPost enc k w0 blk off N key dk a b)) := fun w dk a b h1 h2 h3 h4 => ins_any L R hcf eg hC h1 h2 h0 h3 h4 (by omega)
  have HSYM : Hid (∀ (w : World) (dk : Array α) (a m b : Nat), SWK enc k w0 blk off dk w → dk.size = N → a < m → m < b → b ≤ N → SR key dk a m → SR key dk m b → Calls P 63 #[.slice (some ⟨blk, off, none⟩) N cap, .int .i64 a, .int .i64 m, .int .i64 b, .func (.func g) #[] #[]] w (SymPost enc k w0 blk off N key dk a b)) := fun w dk a m b h1 h2 h3 h4 h5 h6 h7 => sym_any L R hcf eg hC h0 (by omega) (b - a) w dk a m b (Nat.le_refl _) h1 h2 h3 h4 h5 h6 h7
  clear L R hw hs h0 hC hcf
  go_enter HF.out, Try.ntmps58
  go_wp2_with fail
  go_loopw [7, 8] (fun v v2 w' => ∃ (a b : Nat) (dk : Array α), 20 ∣ a ∧ b = a + 20 ∧ a ≤ N ∧ v = .int .i64 a ∧ v2 = .int .i64 b ∧ SWK enc k w0 blk off dk w' ∧ dk.size = N ∧ Mv key 0 N d dk ∧ Blks key 20 0 a dk) (fun i _ _ => N - (intOf i).toNat)
  case atStart => exact ⟨0, 20, d, Nat.dvd_zero _, rfl, Nat.zero_le _, rfl, rfl, HW.out.1, HW.out.2, Mv.refl _ _ _, Blks.nil _ _ _⟩
  case round =>
  clear HW
  obtain ⟨a, b, dk, hda, hba, haN, rfl, rfl, hsw, hsk, hmv, hbl⟩ := hrel
  have HM := Lib.hid hmv; have HBL := Lib.hid hbl; have HDA := Lib.hid hda; have HBA := Lib.hid hba
  by_cases hbn : b ≤ N
  case pos =>
    have HC := Lib.hid (HINS.out wr dk a b hsw hsk (by omega) hbn)
    have ebn : (b : Int) + 20 = ((b + 20 : Nat) : Int) := by omega
    have hb20 : b ≤ 100000 := by omega
    clear hsw hsk hmv hbl hda hba ebn
    go_wp2_with (go_at_call 62; (with_reducible refine HC.out.mono ?_); rintro en w7 ⟨rfl, d', h1, h2, h3, h4⟩; have H1 := Lib.hid h1; have H2 := Lib.hid h2; have H3 := Lib.hid h3; have H4 := Lib.hid h4; clear h1 h2 h3 h4)
    go_roundw
    case rel =>
      have hba := HBA.out; have hda := HDA.out
      exact ⟨b, b + 20, d', by omega, rfl, hbn, rfl, by go_num, H1.out, H2.out, HM.out.trans (H3.out.wide (by omega) hbn), HBL.out.step hda H3.out H4.out (by omega) (by omega)⟩
    case measure => have := HBA.out; simp [intOf]; omega
  case neg =>
  have HC := Lib.hid (HINS.out wr dk a N hsw hsk haN (Nat.le_refl _))
  have hbn2 : ¬ (b : Int) ≤ (N : Int) := by omega
  clear hsw hsk hmv hbl hda hba
  go_wp2_with (go_at_call 62; (with_reducible refine HC.out.mono ?_); rintro en w7 ⟨rfl, d', h1, h2, h3, h4⟩; have H1 := Lib.hid h1; have H2 := Lib.hid h2; have H3 := Lib.hid h3; have H4 := Lib.hid h4; clear h1 h2 h3 h4)
  go_loopw [6] (fun v w' => ∃ (bs : Nat) (dk : Array α), 20 ≤ bs ∧ bs ≤ 200000 ∧ v = .int .i64 bs ∧ SWK enc k w0 blk off dk w' ∧ dk.size = N ∧ Mv key 0 N d dk ∧ Blks key bs 0 N dk) (fun i _ => N - (intOf i).toNat)
  case atStart =>
    have hba := HBA.out; have hda := HDA.out
    exact ⟨20, d', Nat.le_refl _, by omega, rfl, H1.out, H2.out, HM.out.trans (H3.out.wide (by omega) (Nat.le_refl _)), HBL.out.step hda H3.out H4.out (by omega) (by omega)⟩
  case round =>
  clear H1 H2 H3 H4 HM HBL HDA HBA HC
  obtain ⟨bs, dk, hb1, hb2, rfl, hsw, hsk, hmv, hbl⟩ := hrel
  have HM := Lib.hid hmv; have HBL := Lib.hid hbl
  by_cases hlt : bs < N
  case neg =>
    have HS := Lib.hid hsw; have HK := Lib.hid hsk
    clear hsw hsk hmv hbl
    go_wp2_with fail
    go_end0
    exact ⟨rfl, dk, HS.out, HK.out, HM.out, HBL.out.all (by omega)⟩
  case pos =>
  have HS := Lib.hid hsw; have HK := Lib.hid hsk
  clear hsw hsk hmv hbl
  go_wp2_with fail
  go_loopw [7, 8] (fun v v2 w' => ∃ (a b : Nat) (dj : Array α), 2 * bs ∣ a ∧ b = a + 2 * bs ∧ a ≤ N ∧ v = .int .i64 a ∧ v2 = .int .i64 b ∧ SWK enc k w0 blk off dj w' ∧ dj.size = N ∧ Mv key 0 N d dj ∧ Blks key (2 * bs) 0 a dj ∧ Blks key bs a N dj) (fun i _ _ => N - (intOf i).toNat)
  case atStart => exact ⟨0, 2 * bs, dk, Nat.dvd_zero _, by omega, Nat.zero_le _, rfl, by go_num, HS.out, HK.out, HM.out, Blks.nil _ _ _, HBL.out⟩
  case round =>
  clear HS HK HM HBL
  obtain ⟨a, b, dj, hda, hba, haN, rfl, rfl, hsw, hsk, hmv, hbl, hbr⟩ := hrel
  have HM := Lib.hid hmv; have HBL := Lib.hid hbl; have HBR := Lib.hid hbr; have HDA := Lib.hid hda; have HBA := Lib.hid hba
  by_cases hbn : b ≤ N
  case pos =>
    obtain ⟨s1, s2⟩ := hbr.two hda (by omega) (by omega)
    obtain ⟨m, hm⟩ : ∃ m, m = a + bs := ⟨_, rfl⟩
    rw [← hm] at s1 s2
    rw [← hba] at s2
    have HC := Lib.hid (HSYM.out wr dj a m b hsw hsk (by omega) (by omega) hbn s1 s2)
    have em : (a : Int) + (bs : Int) = (m : Int) := by omega
    have hb3 : b ≤ 100000 := by omega
    have ha3 : a ≤ 100000 := by omega
    clear hsw hsk hmv hbl hbr hda hba hm s1 s2
    go_wp2_with (go_at_call 63; (with_reducible refine HC.out.mono ?_); rintro en w7 ⟨rfl, d', h1, h2, h3, h4⟩; have H1 := Lib.hid h1; have H2 := Lib.hid h2; have H3 := Lib.hid h3; have H4 := Lib.hid h4; clear h1 h2 h3 h4)
    go_roundw
    case rel =>
      have hba := HBA.out; have hda := HDA.out
      exact ⟨b, b + 2 * bs, d', by rw [hba]; exact Nat.dvd_add hda (Nat.dvd_refl _), rfl, hbn, rfl, by go_num, H1.out, H2.out, HM.out.trans (H3.out.wide (by omega) hbn), HBL.out.step hda H3.out H4.out (by omega) (by omega), HBR.out.rest H3.out (by omega)⟩
    case measure => have := HBA.out; simp [intOf]; omega
  case neg =>
  have hbn2 : ¬ (b : Int) ≤ (N : Int) := by omega
  have ha3 : a ≤ 100000 := by omega
  by_cases hmN : a + bs < N
  · obtain ⟨s1, s2⟩ := hbr.end2 hda (by omega) hmN (by omega)
    obtain ⟨m, hm⟩ : ∃ m, m = a + bs := ⟨_, rfl⟩
    rw [← hm] at s1 s2 hmN
    have HC := Lib.hid (HSYM.out wr dj a m N hsw hsk (by omega) hmN (Nat.le_refl _) s1 s2)
    have em : (a : Int) + (bs : Int) = (m : Int) := by omega
    clear hsw hsk hmv hbl hbr hda hba hm s1 s2
    go_wp2_with (go_at_call 63; (with_reducible refine HC.out.mono ?_); rintro en w7 ⟨rfl, d', h1, h2, h3, h4⟩; have H1 := Lib.hid h1; have H2 := Lib.hid h2; have H3 := Lib.hid h3; have H4 := Lib.hid h4; clear h1 h2 h3 h4)
    go_roundw
    case rel =>
      have hba := HBA.out; have hda := HDA.out
      exact ⟨2 * bs, d', by omega, by omega, by go_num, H1.out, H2.out, HM.out.trans (H3.out.wide (by omega) (Nat.le_refl _)), HBL.out.step hda H3.out H4.out (by omega) (by omega)⟩
    case measure => simp [intOf]; omega
  · have hmN2 : ¬ (a : Int) + (bs : Int) < (N : Int) := by omega
    have HQ := Lib.hid hsw; have HK := Lib.hid hsk
    clear hsw hsk hmv hbl hbr hda hba
    go_wp2_with fail
    go_roundw
    case rel =>
      have hba := HBA.out; have hda := HDA.out
      exact ⟨2 * bs, dj, by omega, by omega, by go_num, HQ.out, HK.out, HM.out, HBL.out.step hda (Mv.refl _ _ _) (HBR.out.end1 hda (by omega) haN) (by omega) (by omega)⟩
    case measure => simp [intOf]; omega
end
end Go.Proofs.Ytjlnaiiajlahgaa.stab
