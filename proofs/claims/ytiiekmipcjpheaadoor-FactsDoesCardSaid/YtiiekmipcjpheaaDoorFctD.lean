/- The document's said: walked. -/
import Derived.Test.YtiiekmipcjpheaaDoorFctB
import Derived.Test.YtiiekmipcjpheaaDoorMay
import Derived.Test.YtiiekmipcjpheaaDoorIcE
import Derived.Deep.DrawnRows
import Derived.Deep.DeepCutAuto
import Derived.Deep.QuietTactic
import Derived.Laws.EntriesVeiled
set_option linter.unusedVariables false
set_option linter.unusedSimpArgs false
namespace Go.Proofs.YtiiekmipcjpheaaDoor.fct
open Go.Bk Go.RowKit Go.Proofs.YtiiekmipcjpheaaDoor.ir Go.Proofs.YtiiekmipcjpheaaDoor.chk Go.Proofs.YtiiekmipcjpheaaDoor.cut
attribute [local go_sem ↓] Go.wp_at_zero Go.wp_at_succ

/-- Every instruction of a trace that may be, may be. -/
theorem insOk_of {p : Api.Prog} {t : Api.TTrace} (h : traceChk p t = 0) : ∃ f : Api.Fn, ∀ (k : Nat) (x : Api.TIns), t.Ins[k]? = some x → insOk f.Regs f.Code.length t.Ins t.Exits x k = true := by
  unfold traceChk at h
  split at h
  · exact absurd h (by decide)
  split at h
  · exact absurd h (by decide)
  rename_i f hf
  split at h
  · exact absurd h (by decide)
  split at h
  · rename_i h4; exact absurd h h4
  rename_i h4
  have h4 : insTo f.Regs f.Code.length t.Ins t.Exits t.Ins.length = 0 := Decidable.not_not.1 h4
  refine ⟨f, fun k x hk => ?_⟩
  have hl := (List.getElem?_eq_some_iff.1 hk).1
  have h5 : insTo f.Regs f.Code.length t.Ins t.Exits (k + 1) = 0 := by
    apply Decidable.not_not.1
    intro hn
    exact hn ((insTo_stop f.Regs f.Code.length t.Ins hn (show k + 1 ≤ t.Ins.length by omega)).symm.trans h4)
  have h6 : insC f.Regs f.Code.length t.Ins t.Exits k = 0 := by
    have h7 : (if insTo f.Regs f.Code.length t.Ins t.Exits k = 0 then insC f.Regs f.Code.length t.Ins t.Exits k else insTo f.Regs f.Code.length t.Ins t.Exits k) = 0 := h5
    split at h7
    · exact h7
    · rename_i h8; exact absurd h7 h8
  unfold insC at h6
  rw [hk] at h6
  dsimp only at h6
  split at h6
  · exact absurd h6 (by decide)
  split at h6
  · exact absurd h6 (by decide)
  rename_i h8
  simpa using h8
/-- The kinds that are told. -/
def KindsR (ins : List Api.TIns) : Prop := ∀ x ∈ ins, (x.Op = 4 → x.N ≤ 6) ∧ (x.Op = 2 ∨ x.Op = 6 → 0 ≤ x.K.Kind ∧ x.K.Kind ≤ 6)
theorem kindsR_of {p : Api.Prog} {t : Api.TTrace} (h : traceChk p t = 0) : KindsR t.Ins := by
  obtain ⟨f, hf⟩ := insOk_of h
  intro x hx
  obtain ⟨k, hk⟩ := List.getElem?_of_mem hx
  have h9 := hf k x hk
  unfold insOk at h9
  simp only [Bool.and_eq_true] at h9
  refine ⟨fun h4 => ?_, fun h26 => ?_⟩
  · have h10 := h9.2.1
    unfold numOk at h10
    rw [h4, if_neg (by decide)] at h10
    simp only [Bool.and_eq_true, decide_eq_true_eq] at h10
    exact h10.2
  · have h10 := h9.2.2.1
    unfold keepOk at h10
    have hkk : (formOf x.Op).1.k = true := by rcases h26 with h | h <;> rw [h] <;> rfl
    rw [if_pos hkk] at h10
    simp only [Bool.and_eq_true] at h10
    have h11 := h10.1
    unfold cod.right at h11
    refine Decidable.byContradiction fun hneg => ?_
    repeat rw [if_neg (by omega)] at h11
    exact absurd h11 (by decide)
theorem upK_le {ins : List Api.TIns} (h : KindsR ins) {v : Int} : ∀ (n i : Nat) {k : Int}, upK ins v i n = some k → k ≤ 6
  | 0, i, k, hu => by cases hu
  | n + 1, i, k, hu => by
    unfold upK at hu
    split at hu
    · rename_i k' hk'
      injection hu with hu
      subst hu
      unfold atK at hk'
      split at hk'
      · rename_i y hy
        have hm := h y (List.mem_of_getElem? hy)
        unfold lookK at hk'
        split at hk'
        · split at hk'
          · rename_i h4; injection hk' with e; have := hm.1 h4; omega
          · split at hk'
            · rename_i h6; injection hk' with e; have := (hm.2 (.inr h6)).2; omega
            · split at hk'
              · injection hk' with e; omega
              · cases hk'
        · cases hk'
      · cases hk'
    · exact upK_le h n (i + 1) hu
theorem kind_le {ins : List Api.TIns} (h : KindsR ins) : ∀ (n : Nat) (v a : Int), kindG ins (fun _ => -1) n v a ≤ 6
  | 0, _, _ => by show (-1 : Int) ≤ 6; omega
  | n + 1, v, a => by
    unfold kindG
    split
    · omega
    split
    · omega
    rename_i x hx
    have hm := h x (List.mem_of_getElem? hx)
    split
    · omega
    split
    · unfold ownK
      split
      · rename_i h2; exact (hm.2 (.inl h2)).2
      repeat' split
      all_goals omega
    · split
      · rename_i k hk; exact upK_le h _ _ hk
      · omega
theorem kd_same {t : Api.TTrace} (h : KindsR t.Ins) (v : Int) (i : Nat) : kindG t.Ins (fun k => k) (v.toNat + 1) v i = kd t v i := by
  unfold kd
  rw [kind_same (fun x hx h2 => ((h x hx).2 (.inl h2)).1)]
set_option maxRecDepth 100000 in
set_option maxHeartbeats 1000000 in
/-- ahead: is there one ahead that is the same guard? -/
theorem rahead_any {S : Nat → Prop} {w : World} {T : Array Value} {t : Api.TTrace} {x : Api.TIns} {gi gT gx i : Nat} (hi : w.cell? ⟨gi, 0, none⟩ = some (.int .i64 i)) (hil : gi < w.heap.size) (hrt : Row w gT 34 T) (ht : Rep.cells S w T.toList t) (hS : ∀ b, S b → b < w.heap.size) (hx : Row w gx 48 #[.int .i64 x.Op, .int .i64 x.A, .int .i64 x.B, .int .i64 x.C, .int .i64 x.N, .int .i64 x.Exit, .int .i64 x.K.Kind, .int .i64 x.K.N]) (hin : i ≤ t.Ins.length) :
    Calls Tryd.prog 119 #[.func (.func 120) #[] #[.pointer (some ⟨gx, 0, none⟩)], .pointer (some ⟨gi, 0, none⟩), .pointer (some ⟨gT, 0, none⟩)] w fun e w' => e = .returned (.bool (twinB t.Ins i x)) ∧ Below w.heap.size w w' := by
  obtain ⟨aI, nI, cI, hT⟩ := tin_of ht
  have hI9 := hT.few
  have hiI : i ≤ nI := by rw [← hT.len]; exact hin
  have HCE : Hid (∀ W, Below w.heap.size w W → Row W gT 34 T ∧ Arr S W aI t.Ins ∧ Row W gx 48 #[.int .i64 x.Op, .int .i64 x.A, .int .i64 x.B, .int .i64 x.C, .int .i64 x.N, .int .i64 x.Exit, .int .i64 x.K.Kind, .int .i64 x.K.N] ∧ (∀ b, S b → b < W.heap.size)) := fun W hb => ⟨hrt.keep (hb.block _ hrt.lt), hT.ins.keep fun b hb' => hb.block b (hS b hb'), hx.keep (hb.block _ hx.lt), fun b hb' => Nat.lt_of_lt_of_le (hS b hb') hb.size⟩
  have HC3 := Lib.hid hT.c3; have HLI := Lib.hid hT.len
  have HRF : Hid (Below w.heap.size w w) := Below.refl _ _
  have HIL := Lib.hid hil
  have HTW : Hid (twinB t.Ins i x = (t.Ins.take i).any (sameG x)) := rfl
  obtain ⟨r, hr⟩ : ∃ r, r = twinB t.Ins i x := ⟨_, rfl⟩
  rw [← hr] at HTW ⊢
  clear hr hT ht hS hx hrt hin
  go_enter Tryd.func119, Tryd.ntmps119
  go_wp2_with fail
  clear hi hil
  go_loopw [7] (fun s7 W => ∃ k : Nat, k ≤ i ∧ s7 = .int .i64 k ∧ firstTo (sameG x) t.Ins k ∧ Below w.heap.size w W) (fun s7 _ => i - (intOf s7).toNat)
  case atStart => exact ⟨0, Nat.zero_le _, rfl, fun j x hj => by omega, HRF.out⟩
  case round =>
    obtain ⟨k, hk, rfl, hft, hbr⟩ := hrel
    have HFT := Lib.hid hft; have HBR := Lib.hid hbr
    by_cases hlt : k < i
    · obtain ⟨y, hy⟩ : ∃ y, t.Ins[k]? = some y := ⟨_, List.getElem?_eq_getElem (by rw [HLI.out]; omega)⟩
      obtain ⟨hrt, hin, hrx, hS⟩ := HCE.out wr hbr
      have t3 := hrt.cell HC3.out
      have lT := hrt.lt
      obtain ⟨bi, oi, haI, hSi, i0, i1, i2, i3, i4, i5, i6, i7, -⟩ := api_TIns_elem hin hy
      have hbi := hS bi hSi
      have hkn : (k : Int) < (nI : Int) := by omega
      rw [haI] at t3
      have HAI := Lib.hid haI
      have HSD : Hid (Calls Tryd.prog 120 #[.int .i64 k, .agg #[.int .i64 y.Op, .int .i64 y.A, .int .i64 y.B, .int .i64 y.C, .int .i64 y.N, .int .i64 y.Exit, .int .i64 y.K.Kind, .int .i64 y.K.N], .pointer (some ⟨gx, 0, none⟩)] wr fun e w' => e = .returned (.bool (sameG x y)) ∧ Below wr.heap.size wr w') := said2_any x y k hrx
      have HY := Lib.hid hy
      obtain ⟨b, hb⟩ : ∃ b, b = sameG x y := ⟨_, rfl⟩
      rw [← hb] at HSD
      have HB := Lib.hid hb
      clear hft hbr hrt hin hrx hS hSi haI hy hb
      cases b with
      | true =>
        have HF : Hid (r = true) := by
          show _ = _
          rw [HTW.out, List.any_eq_true]
          refine ⟨y, ?_, HB.out.symm⟩
          exact List.mem_of_getElem? (i := k) (by rw [List.getElem?_take_of_lt hlt]; exact HY.out)
        go_wp2_with (go_at_call 120; (with_reducible refine HSD.out.mono ?_); rintro e w4 ⟨rfl, hb4⟩; have HB4 := Lib.hid (HBR.out.trans (hb4.mono HBR.out.size)); clear hb4)
        go_ret
        exact ⟨by rw [HF.out]; rfl, HB4.out⟩
      | false =>
        go_wp2_with (go_at_call 120; (with_reducible refine HSD.out.mono ?_); rintro e w4 ⟨rfl, hb4⟩; have HB4 := Lib.hid (HBR.out.trans (hb4.mono HBR.out.size)); clear hb4)
        go_roundw
        case rel => exact ⟨k + 1, by omega, by go_num, HFT.out.succ HY.out HB.out.symm, HB4.out⟩
        case measure => simp [intOf]; omega
    · obtain rfl : k = i := by omega
      have HF : Hid (r = false) := by
        show _ = _
        rw [HTW.out, List.any_eq_false]
        intro z hz
        obtain ⟨j, hj⟩ := List.getElem?_of_mem hz
        have hjk : j < k := by have := (List.getElem?_eq_some_iff.1 hj).1; simp at this; omega
        rw [List.getElem?_take_of_lt hjk] at hj
        simpa using HFT.out j z hjk hj
      clear hft hbr
      go_wp2_with fail
      go_ret
      exact ⟨by rw [HF.out]; rfl, HBR.out⟩
end Go.Proofs.YtiiekmipcjpheaaDoor.fct
