/- A pass of stretches that are left out, where the answer is always yes: nothing is left. -/
import Derived.Test.YtimlhjjdaggiiaaSmallC
set_option linter.unusedVariables false
set_option linter.unusedSimpArgs false
namespace Go.Proofs.Ytimlhjjdaggiiaa.small
open Go.Bk Go.RowKit

/-- A list that lies apart from the counters. -/
def LiesAt (gk ga gn : Nat) (w : World) (v : Value) (l : List Int) : Prop := ∃ a c, v = .slice a l.length c ∧ l.length ≤ c ∧ (a = none → c = 0) ∧ c ≤ maxLen ∧ Arr (fun b => b < w.heap.size ∧ b ≠ gk ∧ b ≠ ga) w a l
theorem LiesAt.own {gk ga gn : Nat} {w : World} {B : Nat} {e : TypeId} {v : Value} {l : List Int} (h : Own (fun _ => False) w B e v l) (hk : gk < B) (ha : ga < B) : LiesAt gk ga gn w v l := by
  obtain ⟨a, c, h1, h2, h3, h4, h5⟩ := h.arrC
  exact ⟨a, c, h1, h2, h3, h4, h5.mono (fun b hb => by rcases hb with hb | hb; exact hb.elim; exact ⟨hb.2, by omega, by omega⟩)⟩
theorem LiesAt.keep {gk ga gn : Nat} {w w' : World} {v : Value} {l : List Int} (h : LiesAt gk ga gn w v l) (ho : Only2 gk ga w w') : LiesAt gk ga gn w' v l := by
  obtain ⟨a, c, h1, h2, h3, h4, h5⟩ := h
  exact ⟨a, c, h1, h2, h3, h4, (h5.keep (w' := w') (fun b hb => ho.block b hb.1 hb.2.1 hb.2.2)).mono (fun b hb => ⟨Nat.lt_of_lt_of_le hb.1 ho.size, hb.2⟩)⟩

def PassPost (gk ga gn : Nat) (n m : Nat) (w : World) (e : Ending) (w' : World) : Prop :=
  ∃ v n', e = .returned v ∧ n ≤ n' ∧ n' ≤ n + m ∧ LiesAt gk ga gn w' v [] ∧ ASt w' gk ga gn false n' ∧ Only2 gk ga w w'
def passRel (gk ga gn : Nat) (n m : Nat) (w : World) (v t : Value) (w' : World) : Prop :=
  ∃ (l : List Int) (k : Int) (n' : Nat), t = .int .i64 k ∧ -200 ≤ k ∧ l.length ≤ m ∧ (k = l.length ∨ (k ≤ 0 ∧ l = [])) ∧ n ≤ n' ∧ n' + l.length ≤ n + m ∧ LiesAt gk ga gn w' v l ∧ ASt w' gk ga gn false n' ∧ Only2 gk ga w w'

set_option maxRecDepth 100000 in
set_option maxHeartbeats 1000000 in
theorem pass_any {w : World} {v : Value} {gk ga gn n s : Nat} {l : List Int} (h : LiesAt gk ga gn w v l) (hst : ASt w gk ga gn false n) (hn : n + l.length < 1000000) (hl : l.length ≤ 200) (hs : 1 ≤ s) (hs2 : s ≤ 200) :
    Calls Try.prog 117 #[.pointer (some ⟨gk, 0, none⟩), v, .int .i64 s] w (PassPost gk ga gn n l.length w) := by
  have HST := Lib.hid hst
  have HL := Lib.hid h
  obtain ⟨a, c, rfl, -, -, -, -⟩ := h
  obtain ⟨m, hm⟩ : ∃ m, m = l.length := ⟨_, rfl⟩
  rw [← hm] at hn hl HL; rw [← hm]
  have HM := Lib.hid hm
  clear hst hm
  go_enter Try.func117, Try.ntmps117
  go_wp2
  go_loopw [1, 7] (passRel gk ga gn n m w) (fun _ t _ => (intOf t).toNat)
  case atStart => exact ⟨l, m, n, rfl, by omega, by rw [HM.out]; exact Nat.le_refl _, .inl (by rw [HM.out]), Nat.le_refl _, by rw [HM.out]; exact Nat.le_refl _, HL.out, HST.out, Only2.refl _ _ _⟩
  case round =>
    obtain ⟨l1, k, n1, rfl, hk0, hl1, hk, hn1, hn2, hli, hst1, hon⟩ := hrel
    have HLI := Lib.hid hli; have HS1 := Lib.hid hst1; have HON := Lib.hid hon; have HK := Lib.hid hk
    obtain ⟨a1, c1, rfl, hc1, hnil, hcm, harr⟩ := hli
    have HAR := Lib.hid harr; have HNI := Lib.hid hnil
    have hg1 := hst1.k.lt; have hg2 := hst1.a.lt
    unfold maxLen at hcm
    clear hst1 hon hk harr hnil HST HL
    by_cases hpos : 0 < k
    · have hd : decide (0 < k) = true := by simpa using hpos
      have hkl : k = l1.length := by rcases HK.out with h | ⟨h, -⟩; exact h; omega
      obtain ⟨q, rfl⟩ : ∃ q : Nat, k = q := ⟨k.toNat, by omega⟩
      have hq : l1.length = q := by omega
      rw [hq] at hc1 hl1 hn2; rw [hq]
      have HQ := Lib.hid hq
      have hw : IntKind.i64.wrap ((q : Int) - (s : Int)) = (q : Int) - s := IntWalk.i64_in _ (by omega)
      obtain ⟨f, hf⟩ : ∃ f : Nat, f = q - s := ⟨_, rfl⟩
      have HF := Lib.hid hf
      have hfq : f < q := by omega
      have hwo := without_any (a := a1) (c := c1) (f := f) (t := q) HQ.out HAR.out (fun b hb => hb.1) hc1 HNI.out hcm (by omega) (Nat.le_refl _) (by omega)
      rw [List.drop_of_length_le (by rw [HQ.out]; exact Nat.le_refl _), List.append_nil] at hwo
      have HWO := Lib.hid hwo
      clear hkl hq hf hwo
      have hfs := HF.out
      rcases Nat.lt_or_ge s q with hsq | hsq
      · rw [show (f : Int) = (q : Int) - s by omega] at HWO
        have hmx2 : max (0 : Int) ((q : Int) - s) = (q : Int) - s := by omega
        clear hfs
        go_wp2_with fail
        refine HWO.out.mono ?_
        rintro e w2 ⟨v2, rfl, hown, hb⟩
        have hli2 : LiesAt gk ga gn w2 v2 (l1.take f) := LiesAt.own hown hg1 hg2
        obtain ⟨a2, c2, rfl, hc2, hn3, hcm2, ha2⟩ := hown.arrC
        have hlf : (l1.take f).length = f := by rw [List.length_take, HQ.out]; omega
        rw [hlf] at hc2
        rw [hlf]
        have HLF := Lib.hid hlf; have HLI2 := Lib.hid hli2; have HB2 := Lib.hid hb
        have hak := ask_any (w := w2) (a := a2) (c := c2) (gn := gn) (n := n1) (nv := false) HLF.out ha2 hn3 (fun b hb' => by rcases hb' with hb' | hb'; exact hb'.elim; exact ⟨hb'.2, by omega, by omega⟩) (HS1.out.below hb) (by omega) (by omega)
        have HAK := Lib.hid hak
        clear hown hb hli2 hlf hn3 ha2 hak HWO
        go_wp2_with fail
        refine HAK.out.mono ?_
        rintro e w3 ⟨rfl, hs3, ho3⟩
        have HS3 := Lib.hid hs3; have HO3 := Lib.hid ho3
        clear hs3 ho3 HAK
        go_wp2_with fail
        go_roundw
        case rel =>
          have hfs := HF.out
          refine ⟨l1.take f, (q : Int) - s, n1 + 1, by first | rfl | go_num, by omega, by rw [HLF.out]; omega, ?_, by omega, by rw [HLF.out]; omega, ?_, HS3.out, (HON.out.trans (Only2.of_below HB2.out)).trans HO3.out⟩
          · rcases Nat.lt_or_ge s q with h | h
            · left; rw [HLF.out]; omega
            · right; refine ⟨by omega, List.eq_nil_of_length_eq_zero ?_⟩; rw [HLF.out]; omega
          · have := HLI2.out.keep HO3.out
            rw [HLF.out] at this
            exact this
        case measure => simp [intOf] <;> omega
      · rw [show (f : Int) = 0 by omega] at HWO
        have hmx2 : max (0 : Int) ((q : Int) - s) = 0 := by omega
        clear hfs
        go_wp2_with fail
        refine HWO.out.mono ?_
        rintro e w2 ⟨v2, rfl, hown, hb⟩
        have hli2 : LiesAt gk ga gn w2 v2 (l1.take f) := LiesAt.own hown hg1 hg2
        obtain ⟨a2, c2, rfl, hc2, hn3, hcm2, ha2⟩ := hown.arrC
        have hlf : (l1.take f).length = f := by rw [List.length_take, HQ.out]; omega
        rw [hlf] at hc2
        rw [hlf]
        have HLF := Lib.hid hlf; have HLI2 := Lib.hid hli2; have HB2 := Lib.hid hb
        have hak := ask_any (w := w2) (a := a2) (c := c2) (gn := gn) (n := n1) (nv := false) HLF.out ha2 hn3 (fun b hb' => by rcases hb' with hb' | hb'; exact hb'.elim; exact ⟨hb'.2, by omega, by omega⟩) (HS1.out.below hb) (by omega) (by omega)
        have HAK := Lib.hid hak
        clear hown hb hli2 hlf hn3 ha2 hak HWO
        go_wp2_with fail
        refine HAK.out.mono ?_
        rintro e w3 ⟨rfl, hs3, ho3⟩
        have HS3 := Lib.hid hs3; have HO3 := Lib.hid ho3
        clear hs3 ho3 HAK
        go_wp2_with fail
        go_roundw
        case rel =>
          have hfs := HF.out
          refine ⟨l1.take f, (q : Int) - s, n1 + 1, by first | rfl | go_num, by omega, by rw [HLF.out]; omega, ?_, by omega, by rw [HLF.out]; omega, ?_, HS3.out, (HON.out.trans (Only2.of_below HB2.out)).trans HO3.out⟩
          · rcases Nat.lt_or_ge s q with h | h
            · left; rw [HLF.out]; omega
            · right; refine ⟨by omega, List.eq_nil_of_length_eq_zero ?_⟩; rw [HLF.out]; omega
          · have := HLI2.out.keep HO3.out
            rw [HLF.out] at this
            exact this
        case measure => simp [intOf] <;> omega
    · have hd : decide (0 < k) = false := by simpa using hpos
      have h0 : Hid (l1 = []) := by show _ = _; rcases HK.out with h | ⟨-, h⟩; exact List.eq_nil_of_length_eq_zero (by omega); exact h
      go_wp2_with fail
      go_ret
      exact ⟨_, n1, rfl, hn1, by omega, by rw [← h0.out]; exact HLI.out, HS1.out, HON.out⟩
end Go.Proofs.Ytimlhjjdaggiiaa.small
