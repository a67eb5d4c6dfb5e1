/- A value put behind bytes: the document's SpoolPut, walked. -/
import Derived.Test.YtfdpannanpipdaaSpoolPut
set_option linter.unusedVariables false
set_option linter.unusedSimpArgs false
namespace Go.Proofs.Ytfdpannanpipdaa.spool
open Go.Bk Go.RowKit

theorem record_kn {w : World} (K N : Int) : Calls Try.prog 74 #[.agg #[.int .i64 K, .int .i64 N]] w fun e w' =>
      e = .returned (.slice (some ⟨w.heap.size + 1, 0, none⟩) 13 13) ∧ Blk w' (w.heap.size + 1) 5 (bytesV (recOf ⟨K, N⟩)) ∧ Below w.heap.size w w' := record_any (v := ⟨K, N⟩)
theorem serr_kn {w : World} (K N : Int) : Calls Try.prog 73 #[.agg #[.int .i64 K, .int .i64 N]] w fun e w' => e = .returned (.int .i64 (rightOf ⟨K, N⟩)) ∧ Below w.heap.size w w' := serr_any (v := ⟨K, N⟩)
theorem below_call {w W w' : World} (h : Below w.heap.size w W) (hb : Below W.heap.size W w') : Below w.heap.size w w' := h.trans (hb.mono h.size)
theorem below_al {w W : World} {o : Obj} (h : Below w.heap.size w W) : Below w.heap.size w (W.alloc o) := h.alloc h.size o
theorem below_dr {w W : World} (h : Below w.heap.size w W) : Below w.heap.size w W.drew := h.drew
theorem blk_al {W : World} {o : Obj} {g : Nat} {e : TypeId} {cs : List Value} (h : Blk W g e cs) : Blk (W.alloc o) g e cs := h.keep (Below.heap_alloc _ _ _ h.lt)
theorem blk_dr {W : World} {g : Nat} {e : TypeId} {cs : List Value} (h : Blk W g e cs) : Blk W.drew g e cs := h.keep rfl
theorem blk_call {W w' : World} {g : Nat} {e : TypeId} {cs : List Value} (hb : Below W.heap.size W w') (h : Blk W g e cs) : Blk w' g e cs := h.keep (hb.block g h.lt)
theorem blk_row {W w' : World} {g r : Nat} {e : TypeId} {cs : List Value} (hg : W.grownBy w' (some r)) (hne : g ≠ r) (h : Blk W g e cs) : Blk w' g e cs := h.keep (hg.block g h.lt (fun e => hne (Option.some.inj e)))
theorem below_own {w W w' : World} {v : Value} (h : Below w.heap.size w W) (hg : W.grownBy w' v.ownBlock) (hl : ∀ k, v.ownBlock = some k → w.heap.size ≤ k) : Below w.heap.size w w' := h.grown hg h.size hl
section
variable {W w' : World} {B : Nat} {e : TypeId} {v : Value} {xs : List UInt8}
theorem own_al {o : Obj} (h : Go.Bk.Own (fun _ => False) W B e v xs) : Go.Bk.Own (fun _ => False) (W.alloc o) B e v xs := h.alloc o (fun _ h => h.elim)
theorem own_dr (h : Go.Bk.Own (fun _ => False) W B e v xs) : Go.Bk.Own (fun _ => False) W.drew B e v xs := h.below (Below.refl W.heap.size W).drew (fun _ h => h.elim)
theorem own_call (hb : Below W.heap.size W w') (h : Go.Bk.Own (fun _ => False) W B e v xs) : Go.Bk.Own (fun _ => False) w' B e v xs := h.below hb (fun _ h => h.elim)
end

set_option maxRecDepth 100000 in
set_option maxHeartbeats 400000 in
theorem rput_any {S : Nat → Prop} {w : World} {a : Option Addr} {c n : Nat} {b : List UInt8} {K N : Int} (hn : b.length = n) (h : Arr S w a b) (hS : ∀ b, S b → b < w.heap.size) (hc : n ≤ c) (hnil : a = none → c = 0) :
    Calls Try.prog 22 #[.slice a n c, .agg #[.int .i64 K, .int .i64 N]] w (PutPost w (putOf b ⟨K, N⟩)) := by
  have hsm := h.small
  rw [hn] at hsm
  unfold maxLen at hsm
  have HBN := Lib.hid hn
  have HA : Hid (∀ w', Below w.heap.size w w' → Arr (· < w'.heap.size) w' a b) := fun w' hb => (h.keep (fun b hb' => hb.block b (hS b hb'))).mono (fun b hb' => Nat.lt_of_lt_of_le (hS b hb') hb.size)
  have HR : Hid (∀ w, Calls Try.prog 73 #[.agg #[.int .i64 K, .int .i64 N]] w fun e w' => e = .returned (.int .i64 (rightOf ⟨K, N⟩)) ∧ Below w.heap.size w w') := fun w => serr_kn K N
  obtain ⟨R, hR⟩ : ∃ R, R = putOf b ⟨K, N⟩ := ⟨_, rfl⟩
  rw [← hR]
  clear hn h hS
  by_cases hl : 4000 < n + 13
  · have hd : decide (3987 < (n : Int)) = true := decide_eq_true (by omega)
    have HRE : Hid (R = ([], 2)) := by show _ = _; rw [hR]; unfold putOf; rw [if_pos (by rw [HBN.out]; exact hl)]
    clear hR
    go_enter Try.func22, Try.ntmps22
    go_wp2_with fail
    go_ret2
    rw [HRE.out]
    exact ⟨none, 0, rfl, Arr.nil _ _ _, fun _ => rfl, Nat.le_refl _, (Below.refl _ _).alloc (Nat.le_refl _) _⟩
  · have hd : decide (3987 < (n : Int)) = false := decide_eq_false (by omega)
    by_cases hr : rightOf ⟨K, N⟩ = 0
    · have HRE : Hid (R = (b ++ recOf ⟨K, N⟩, 0)) := by show _ = _; rw [hR]; unfold putOf; rw [if_neg (by rw [HBN.out]; exact hl), if_neg (by simp [hr])]
      rw [hr] at HR
      have HRR := Lib.hid hr
      clear hR hr
      have HEB := Lib.hid (enters_of Try.func74 (by kernel_rfl) rfl)
      go_enter Try.func22, Try.ntmps22
      go_wp2_with fail
      refine (HR.out _).mono ?_
      rintro e w1 ⟨rfl, hb1⟩
      have HB1 : Hid (Below w.heap.size w w1) := ((Below.refl _ _).alloc (Nat.le_refl _) _).trans (hb1.mono (by simp))
      have HV1 : Hid (Blk w1 w.heap.size 24 [.int .i64 K, .int .i64 N]) := (blk_new w [.int .i64 K, .int .i64 N] 24).keep (hb1.block _ (by simp))
      have c0 := HV1.out.cell (j := 0) rfl
      have c1 := HV1.out.cell (j := 1) rfl
      have hbs1 := HB1.out.size
      have hl1 := HV1.out.lt
      clear hb1
      go_wp2_with fail
      have HBOX : Hid (∀ W : World, Blk (W.alloc (.cells #[] 5)) W.heap.size 5 (bytesV [])) := fun W => blk_new W [] 5
      go_region_law? (first
        | (refine step_call (f := 74) (vs := #[.agg #[.int .i64 K, .int .i64 N]]) rfl rfl (by simp [Act.eval, Act.put]) HEB.out (record_kn K N) fun e w' hp => ?_
           obtain ⟨rfl, hrec, hb⟩ := hp
           refine ⟨_, rfl, ?_⟩
           have HBR : Hid (Below w.heap.size w w') := below_call (by (repeat first | exact HBA.out | exact HB1.out | refine below_al ?_ | refine below_dr ?_)) hb)
        | (refine step_of_list rfl fun Q' hQ => ?_
           refine Try.wp_apps44 (S := fun _ => False) (S2 := fun b => True) (B := w.heap.size) (xs := []) (ys := b) rfl rfl rfl rfl HBN.out (own_blk (by (repeat first | with_reducible exact HBOX.out _ | with_reducible exact HV1.out | with_reducible exact hrec | with_reducible refine blk_dr ?_ | with_reducible refine blk_call hb ?_ | with_reducible refine blk_al ?_ | refine blk_row hg1 (by have := hrec.lt; intro he; simp at this he; omega) ?_)) (by first | exact hbs1 | exact HBR.out.size) (by simp)) ((HA.out _ (by (repeat first | exact HBA.out | exact HBR.out | exact HB1.out | refine below_al ?_ | refine below_dr ?_))).mono fun _ _ => trivial) (fun cs y h => h) hnil (fun _ h => h.elim) (by simp; omega) (by exact (show Below w.heap.size w _ from (by (repeat first | exact HBA.out | exact HBR.out | exact HB1.out | refine below_al ?_ | refine below_dr ?_))).size) fun v1 wa hown1 hg1 => ?_
           replace hown1 : Go.Bk.Own (fun _ => False) wa w.heap.size 5 v1 b := hown1
           have HBA : Hid (Below w.heap.size w wa) := below_row (by (repeat first | exact HBA.out | exact HBR.out | exact HB1.out | refine below_al ?_ | refine below_dr ?_)) hg1 (by first | exact hbs1 | exact HBR.out.size)
           have hva : Blk wa w.heap.size 24 [.int .i64 K, .int .i64 N] := blk_row hg1 (by first | exact Nat.ne_of_lt hl1 | (have := hb.size; simp at this; show w.heap.size ≠ w'.heap.size; omega)) (by (repeat first | with_reducible exact HBOX.out _ | with_reducible exact HV1.out | with_reducible exact hrec | with_reducible refine blk_dr ?_ | with_reducible refine blk_call hb ?_ | with_reducible refine blk_al ?_ | refine blk_row hg1 (by have := hrec.lt; intro he; simp at this he; omega) ?_))
           have c0a := hva.cell (j := 0) rfl
           have c1a := hva.cell (j := 1) rfl
           refine (hQ _ _).2 ?_
           clear hQ Q' hva)
        | (refine step_of_list rfl fun Q' hQ => ?_
           refine Try.wp_apps44 (S := fun _ => False) (S2 := fun b => True) (B := w.heap.size) (xs := b) (ys := recOf ⟨K, N⟩) rfl rfl rfl rfl (recOf_len _) (show Go.Bk.Own (fun _ => False) _ w.heap.size 5 v1 b from by (repeat first | with_reducible exact hown1 | with_reducible refine own_dr ?_ | with_reducible refine own_call hb ?_ | with_reducible refine own_al ?_)) (blk_bytes (by (repeat first | with_reducible exact HBOX.out _ | with_reducible exact HV1.out | with_reducible exact hrec | with_reducible refine blk_dr ?_ | with_reducible refine blk_call hb ?_ | with_reducible refine blk_al ?_ | refine blk_row hg1 (by have := hrec.lt; intro he; simp at this he; omega) ?_)) (by rw [recOf_len]; simp [maxLen]) trivial) (fun cs y h => h) (fun h => by cases h) (fun _ h => h.elim) (by have := HBN.out; omega) (by exact (show Below w.heap.size w _ from (by (repeat first | exact HBA.out | exact HBR.out | exact HB1.out | refine below_al ?_ | refine below_dr ?_))).size) fun v2 wz hown2 hg2 => ?_
           have HO2 := Lib.hid hown2
           have HBZ : Hid (Below w.heap.size w wz) := below_own (v := v1) (by (repeat first | exact HBA.out | exact HBR.out | exact HB1.out | refine below_al ?_ | refine below_dr ?_)) hg2 (fun r hr => (hown1.lt r hr).1)
           refine (hQ _ _).2 ?_
           clear hQ Q' hg2 hown2 hown1 hg1 hrec hb))
      all_goals clear HBOX HEB
      all_goals go_wp2_with fail
      all_goals go_ret2
      all_goals exact put_end HRE.out HO2.out (Nat.le_refl _) HBZ.out
    · have HRE : Hid (R = ([], rightOf ⟨K, N⟩)) := by show _ = _; rw [hR]; unfold putOf; rw [if_neg (by rw [HBN.out]; exact hl), if_pos hr]
      clear hR
      have hd2 : decide (rightOf ⟨K, N⟩ = 0) = false := decide_eq_false hr
      go_enter Try.func22, Try.ntmps22
      go_wp2_with fail
      refine (HR.out _).mono ?_
      rintro e w1 ⟨rfl, hb1⟩
      have HB1 : Hid (Below w.heap.size w w1) := ((Below.refl _ _).alloc (Nat.le_refl _) _).trans (hb1.mono (by simp))
      clear hb1
      go_wp2_with fail
      go_ret2
      rw [HRE.out]
      exact ⟨none, 0, rfl, Arr.nil _ _ _, fun _ => rfl, Nat.le_refl _, HB1.out⟩
end Go.Proofs.Ytfdpannanpipdaa.spool
