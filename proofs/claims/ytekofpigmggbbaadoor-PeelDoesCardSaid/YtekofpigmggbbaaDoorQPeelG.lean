/- One turn ahead: the document's count; walked. -/
import Derived.Test.YtekofpigmggbbaaDoorQPeelD
set_option linter.unusedVariables false
set_option linter.unusedSimpArgs false
namespace Go.Proofs.YtekofpigmggbbaaDoor.peel
open Go.Bk Go.RowKit Go.Proofs.YtekofpigmggbbaaDoor.ir Go.Proofs.YtekofpigmggbbaaDoor.chk Go.Proofs.YtekofpigmggbbaaDoor.cut Go.Proofs.YtekofpigmggbbaaDoor.pas

set_option maxRecDepth 100000 in
set_option maxHeartbeats 2000000 in
theorem count_any {S R : Nat → Prop} {w : World} {T : Array Value} {t : Api.TTrace} {gT n c : Nat} {a : Option Addr} {ops : List Int} (hT : Row w gT 34 T) (ht : Rep.cells S w T.toList t) (hS : ∀ b, S b → b < w.heap.size) (hn : ops.length = n) (ho : Arr R w a ops) (hR : ∀ b, R b → b < w.heap.size) (hf : t.Ins.length ≤ 300) :
    Calls Tryd.prog 54 #[.slice a n c, .pointer (some ⟨gT, 0, none⟩)] w fun e w' => (∃ k : Nat, e = .returned (.int .i64 (k : Int)) ∧ k ≤ 300 ∧ (k = 0 ↔ (t.Ins.any fun y => decide (y.Op ∈ ops)) = false)) ∧ Below w.heap.size w w' := by
  obtain ⟨aI, nI, cI, hTI⟩ := tin_of ht
  have hfi : nI ≤ 300 := by rw [← hTI.len]; exact hf
  have HLI := Lib.hid hTI.len
  have HIN : Hid (∀ W, Below w.heap.size w W → Arr S W aI t.Ins) := fun W hb => hTI.ins.keep fun b hb' => hb.block b (hS b hb')
  have HH : Hid (∀ W x, Below w.heap.size w W → Calls Tryd.prog 32 #[.slice a n c, .int .i64 x] W fun e w' => e = .returned (.bool (decide (x ∈ ops))) ∧ Below w.heap.size w w') := fun W x hb => by
    have h := has_any (c := c) (x := x) (ho.keep (w' := W) fun b hb' => hb.block b (hR b hb'))
    rw [hn] at h
    refine h.mono ?_
    rintro e w' ⟨rfl, hq⟩
    exact ⟨rfl, hb.trans (hq.below _)⟩
  have HS := Lib.hid hS
  have t3 := hT.cell hTI.c3
  have lT := hT.lt
  clear ht hS hn ho hR hTI hT
  go_enter Tryd.func54, Tryd.ntmps54
  go_wp2_with fail
  clear t3 lT
  go_loopw [4, 10] (fun s i W => ∃ (j k : Nat), j ≤ nI ∧ i = .int .i64 (j : Int) ∧ s = .int .i64 (k : Int) ∧ k ≤ j ∧ (k = 0 ↔ ((t.Ins.take j).any fun y => decide (y.Op ∈ ops)) = false) ∧ Below w.heap.size w W) (fun _ i _ => nI - (intOf i).toNat)
  case atStart => exact ⟨0, 0, Nat.zero_le _, rfl, rfl, Nat.le_refl _, by simp, Below.refl _ _⟩
  case round =>
    obtain ⟨j, k, hj, rfl, rfl, hkj, hk, hb⟩ := hrel
    have HK := Lib.hid hk
    have HB := Lib.hid hb
    by_cases hlt : j < nI
    · as_aux_lemma =>
        obtain ⟨x, hx⟩ : ∃ x, t.Ins[j]? = some x := ⟨_, List.getElem?_eq_getElem (by rw [HLI.out]; exact hlt)⟩
        obtain ⟨bi, oi, haI, hSi, i0, i1, i2, i3, i4, i5, i6, i7, -⟩ := api_TIns_elem (HIN.out wr hb) hx
        have hbi : bi < wr.heap.size := Nat.lt_of_lt_of_le (HS.out bi hSi) hb.size
        subst haI
        have hji : (j : Int) < (nI : Int) := by omega
        obtain ⟨b, hbb⟩ : ∃ b, b = decide (x.Op ∈ ops) := ⟨_, rfl⟩
        have HT : Hid (((t.Ins.take (j + 1)).any fun y => decide (y.Op ∈ ops)) = (((t.Ins.take j).any fun y => decide (y.Op ∈ ops)) || b)) := by
          show _ = _
          rw [List.take_add_one, hx, List.any_append, hbb]
          simp
        have HC : Hid (∀ W, Below w.heap.size w W → Calls Tryd.prog 32 #[.slice a n c, .int .i64 x.Op] W fun e w' => e = .returned (.bool b) ∧ Below w.heap.size w w') := fun W hb => by rw [hbb]; exact HH.out W x.Op hb
        have HBA : Hid (Below w.heap.size w (wr.alloc (.cells #[.int .i64 x.Op, .int .i64 x.A, .int .i64 x.B, .int .i64 x.C, .int .i64 x.N, .int .i64 x.Exit, .int .i64 x.K.Kind, .int .i64 x.K.N] 43))) := hb.alloc hb.size _
        have hwk : IntKind.i64.wrap ((k : Int) + 1) = (k : Int) + 1 := by rw [IntWalk.i64_in _ (by omega)]
        clear hx hb hSi hk HB hbb
        cases b with
        | true =>
          go_wp2_with (go_at_call 32; refine (HC.out _ HBA.out).mono ?_; rintro e w5 ⟨rfl, hb⟩; have HB5 := Lib.hid hb; clear hb)
          go_roundw
          case rel => exact ⟨j + 1, k + 1, by omega, by go_num, by go_num, by omega, by rw [HT.out]; simp, HB5.out⟩
          case measure => simp [intOf]; omega
        | false =>
          go_wp2_with (go_at_call 32; refine (HC.out _ HBA.out).mono ?_; rintro e w5 ⟨rfl, hb⟩; have HB5 := Lib.hid hb; clear hb)
          go_roundw
          case rel => exact ⟨j + 1, k, by omega, by go_num, rfl, by omega, by rw [HT.out, Bool.or_false]; exact HK.out, HB5.out⟩
          case measure => simp [intOf]; omega
    · as_aux_lemma =>
        obtain rfl : j = nI := by omega
        clear hb hk
        go_wp2_with fail
        go_ret
        refine ⟨⟨k, rfl, by omega, ?_⟩, HB.out⟩
        have h := HK.out
        rwa [← HLI.out, List.take_length] at h
end Go.Proofs.YtekofpigmggbbaaDoor.peel
