/- A value put behind bytes: the program's Put, walked. -/
import Derived.Test.YtfdpannanpipdaaSpoolBig
import Derived.Test.YtfdpannanpipdaaConcatB
import Derived.Test.YtfdpannanpipdaaSpoolE
import Derived.Test.YtfdpannanpipdaaSteps
set_option linter.unusedVariables false
set_option linter.unusedSimpArgs false
namespace Go.Proofs.Ytfdpannanpipdaa.spool
open Go.Bk Go.RowKit

theorem arr_listsN {α : Type} [Rep α] {w : World} {g : Nat} {e : TypeId} {vs : List Value} {ls : List (List α)} (hb : Blk w g e vs) (hl : ls.length ≤ maxLen)
    (h : ∀ (k : Nat) (x : List α), ls[k]? = some x → ∃ a c, vs[k]? = some (.slice a x.length c) ∧ x.length ≤ c ∧ (a = none → c = 0) ∧ Arr (· < w.heap.size) w a x) : Arr (· < w.heap.size) w (some ⟨g, 0, none⟩) ls := by
  refine ⟨hl, .inr ⟨g, 0, rfl, hb.lt, fun k x hk => ?_⟩⟩
  obtain ⟨a, c, h1, h2, h3, h4⟩ := h k x hk
  refine ⟨[.slice a x.length c], ⟨a, c, rfl, h2, h3, h4⟩, fun j hj => ?_⟩
  have hj0 : j = 0 := by have : j < 1 := hj; omega
  subst hj0
  show w.cell? ⟨g, 0 + k * 1 + 0, none⟩ = some _
  rw [show 0 + k * 1 + 0 = k by omega]
  exact hb.cell h1
theorem own_blk {w : World} {B g : Nat} {bs : List UInt8} (h : Blk w g 5 (bytesV bs)) (hB : B ≤ g) (hl : bs.length ≤ 1000) : Go.Bk.Own (fun _ => False) w B 5 (.slice (some ⟨g, 0, none⟩) bs.length bs.length) bs := by
  refine ⟨bs.map fun b => [.int .u8 b.toNat], by simp, fun k x cs hx hc => ?_, ?_⟩
  · simp [hx] at hc; subst hc; rfl
  · refine ⟨?_, .inr ⟨g, bs.length, _, rfl, hB, h, Nat.le_refl _, by unfold maxLen; omega, by simp [bytesV, show Rep.sz UInt8 = 1 from rfl], ?_⟩⟩
    · have : ∀ l : List UInt8, (l.map fun b => [Value.int .u8 (b.toNat : Int)]).flatten.length = l.length := fun l => by induction l with | nil => rfl | cons x l ih => simpa using ih
      rw [this, show Rep.sz UInt8 = 1 from rfl, Nat.mul_one]
    · have : ∀ l : List UInt8, (l.map fun b => [Value.int .u8 (b.toNat : Int)]).flatten = bytesV l := fun l => by induction l with | nil => rfl | cons x l ih => simpa [bytesV] using ih
      rw [this, show Rep.sz UInt8 = 1 from rfl, Nat.mul_one]
      simp [bytesV, List.take_of_length_le]
def putOf (b : List UInt8) (v : Api.Val) : List UInt8 × Int := if 4000 < b.length + 13 then ([], 2) else if rightOf v ≠ 0 then ([], rightOf v) else (b ++ recOf v, 0)
def PutPost (w : World) (R : List UInt8 × Int) (e : Ending) (w' : World) : Prop :=
  ∃ a' c', e = .returned (.tuple #[.slice a' R.1.length c', .int .i64 R.2]) ∧ Arr (fun b => w.heap.size ≤ b ∧ b < w'.heap.size) w' a' R.1 ∧ (a' = none → c' = 0) ∧ R.1.length ≤ c' ∧ Below w.heap.size w w'
theorem big_at {w : World} {m N0 : Nat} {z : Int} (hz : z = (N0 : Int)) (hm : m ≤ 100) (hN : N0 < 18446744073709551616) : Calls Try.prog 70 #[.int .u64 z, .int .i64 (m : Int)] w (BigPost w m N0) := hz ▸ big_any hm hN
theorem below_row {w W w' : World} {g : Nat} (h : Below w.heap.size w W) (hg : W.grownBy w' (some g)) (hle : w.heap.size ≤ g) : Below w.heap.size w w' := h.grown hg h.size (fun r hr => by cases hr; exact hle)
theorem cellsK {W W' : World} (h : Below W.heap.size W W') : CellsKept W W' := fun k e cs hk => hk.keep (h.block k hk.lt)

theorem own9 {w w' : World} {v : Value} {V : Api.Val} (h : Go.Bk.Own (fun _ => False) w' w.heap.size 5 v (headOf V)) : ∃ a c, v = .slice a (9 : Nat) c ∧ 9 ≤ c ∧ (a = none → c = 0) ∧ Arr (· < w'.heap.size) w' a (headOf V) := by
  obtain ⟨a, c, h1, h2, h3, h4⟩ := h.arr
  rw [headOf_len] at h1 h2
  exact ⟨a, c, h1, h2, h3, h4.mono fun b hb => hb.elim (fun h => h.elim) (fun h => h.2)⟩
theorem put_end {w w' : World} {R : List UInt8 × Int} {fl : List UInt8} {u : Value} {B : Nat} (hR : R = (fl, 0)) (ho : Go.Bk.Own (fun _ => False) w' B 5 u fl) (hB : w.heap.size ≤ B) (hb : Below w.heap.size w w') : PutPost w R (.returned (.tuple #[u, .int .i64 0])) w' := by
  obtain ⟨a, c, rfl, h2, h3, h4⟩ := ho.arr
  subst hR
  exact ⟨a, c, rfl, h4.mono fun b hb' => hb'.elim (fun h => h.elim) (fun h => ⟨Nat.le_trans hB h.1, h.2⟩), h3, h2, hb⟩

theorem cat3 {w4 : World} {b hd t : List UInt8} {a a8 : Option Addr} {g4 c c8 n : Nat} (h : Arr (· < w4.heap.size) w4 a b) (hn : b.length = n) (hc : n ≤ c) (hnil : a = none → c = 0) (h8 : Arr (· < w4.heap.size) w4 a8 hd) (hd9 : hd.length = 9) (hc8 : 9 ≤ c8) (hn8 : a8 = none → c8 = 0)
    (h5 : Arr (· < w4.heap.size) w4 (some ⟨g4, 0, none⟩) t) (ht : t.length = 4) (hl : n ≤ 4000) :
    Calls Try.prog 71 #[.slice (some ⟨w4.heap.size, 0, none⟩) 3 3] (w4.alloc (.cells #[.slice a n c, .slice a8 (9 : Nat) c8, .slice (some ⟨g4, 0, none⟩) (4 : Nat) 4] 44)) (RetOwn 5 (w4.alloc (.cells #[.slice a n c, .slice a8 (9 : Nat) c8, .slice (some ⟨g4, 0, none⟩) (4 : Nat) 4] 44)) (b ++ (hd ++ t))) := by
  have st : ∀ {a : Option Addr} {x : List UInt8} (o : Obj), Arr (· < w4.heap.size) w4 a x → Arr (· < (w4.alloc o).heap.size) (w4.alloc o) a x := fun o h => (h.keep (fun b hb => Below.heap_alloc _ _ _ hb)).mono (fun b hb => by have : b < w4.heap.size := hb; simp; omega)
  have := concatB_any (ls := [b, hd, t]) (m := 3) (c := 3) (a := some ⟨w4.heap.size, 0, none⟩) (S := fun x => x < (w4.alloc (.cells #[.slice a n c, .slice a8 (9 : Nat) c8, .slice (some ⟨g4, 0, none⟩) (4 : Nat) 4] 44)).heap.size) rfl
    (arr_listsN (blk_new w4 [.slice a n c, .slice a8 (9 : Nat) c8, .slice (some ⟨g4, 0, none⟩) (4 : Nat) 4] 44) (by simp [maxLen]) (fun k x hk => ?_)) (fun b hb => hb) (by omega) (by simp; omega)
  · simpa using this
  · match k, hk with
    | 0, hk => obtain rfl : b = x := by simpa using hk
               exact ⟨a, c, by rw [hn]; rfl, by omega, hnil, st _ h⟩
    | 1, hk => obtain rfl : hd = x := by simpa using hk
               exact ⟨a8, c8, by rw [hd9]; rfl, by omega, hn8, st _ h8⟩
    | 2, hk => obtain rfl : t = x := by simpa using hk
               exact ⟨_, 4, by rw [ht]; rfl, by omega, (fun h => by cases h), st _ h5⟩
    | k + 3, hk => simp at hk

set_option maxRecDepth 100000 in
set_option maxHeartbeats 4000000 in
theorem put_any {S : Nat → Prop} {w : World} {a : Option Addr} {c n : Nat} {b : List UInt8} {K N : Int} (hn : b.length = n) (h : Arr S w a b) (hS : ∀ b, S b → b < w.heap.size) (hc : n ≤ c) (hnil : a = none → c = 0) (h47 : n ≤ 140737488355328) :
    Calls Try.prog 21 #[.slice a n c, .agg #[.int .i64 K, .int .i64 N]] w (PutPost w (putOf b ⟨K, N⟩)) := by
  have hsm := h.small
  rw [hn] at hsm
  unfold maxLen at hsm
  have HBN := Lib.hid hn
  have HA : Hid (∀ w', Below w.heap.size w w' → Arr (· < w'.heap.size) w' a b) := fun w' hb => (h.keep (fun b hb' => hb.block b (hS b hb'))).mono (fun b hb' => Nat.lt_of_lt_of_le (hS b hb') hb.size)
  have HR : Hid (∀ w, Calls Try.prog 69 #[.agg #[.int .i64 K, .int .i64 N]] w fun e w' => e = .returned (.int .i64 (rightOf ⟨K, N⟩)) ∧ Below w.heap.size w w') := fun w => right_kn K N
  obtain ⟨R, hR⟩ : ∃ R, R = putOf b ⟨K, N⟩ := ⟨_, rfl⟩
  rw [← hR]
  clear hn h hS
  by_cases hl : 4000 < n + 13
  · have hd : decide (4000 < (n : Int) + 13) = true := decide_eq_true (by omega)
    have HRE : Hid (R = ([], 2)) := by show _ = _; rw [hR]; unfold putOf; rw [if_pos (by rw [HBN.out]; exact hl)]
    clear hR
    go_enter Try.func21, Try.ntmps21
    go_wp2_with fail
    go_ret2
    rw [HRE.out]
    exact ⟨none, 0, rfl, Arr.nil _ _ _, fun _ => rfl, Nat.le_refl _, (Below.refl _ _).alloc (Nat.le_refl _) _⟩
  · have hd : decide (4000 < (n : Int) + 13) = false := decide_eq_false (by omega)
    by_cases hr : rightOf ⟨K, N⟩ = 0
    · have HRE : Hid (R = (b ++ recOf ⟨K, N⟩, 0)) := by show _ = _; rw [hR]; unfold putOf; rw [if_neg (by rw [HBN.out]; exact hl), if_neg (by simp [hr])]
      rw [hr] at HR
      have HRR := Lib.hid hr
      clear hR hr
      have HEB := Lib.hid (enters_of Try.func70 (by kernel_rfl) rfl)
      have HZ : Hid (IntKind.u64.wrap N = (((N % 18446744073709551616).toNat : Nat) : Int)) := by
        show _ = _
        simp [IntKind.wrap, IntKind.signed, IntKind.bits]
        omega
      go_enter Try.func21, Try.ntmps21
      go_wp2_with fail
      refine (HR.out _).mono ?_
      rintro e w1 ⟨rfl, hb1⟩
      have HB1 : Hid (Below w.heap.size w w1) := ((Below.refl _ _).alloc (Nat.le_refl _) _).trans (hb1.mono (by simp))
      have HV1 : Hid (Blk w1 w.heap.size 24 [.int .i64 K, .int .i64 N]) := (blk_new w [.int .i64 K, .int .i64 N] 24).keep (hb1.block _ (by simp))
      have c0 := HV1.out.cell (j := 0) rfl
      have c1 := HV1.out.cell (j := 1) rfl
      have hbs1 := HB1.out.size
      have hl1 := HV1.out.lt
      clear hb1
      have HNL : Hid ((N % 18446744073709551616).toNat < 18446744073709551616) := by show _ < _; omega
      go_wp2_with fail
      have HBOX : Hid (∀ W : World, Blk (W.alloc (.cells #[.int .u8 (IntKind.u8.wrap K)] 5)) W.heap.size 5 (bytesV [UInt8.ofNat (K % 256).toNat])) := by
        show ∀ W : World, _
        intro W
        have : IntKind.u8.wrap K = ((UInt8.ofNat (K % 256).toNat).toNat : Int) := by
          simp [IntKind.wrap, IntKind.signed, IntKind.bits]
          omega
        rw [this]
        exact blk_new W [.int .u8 (UInt8.ofNat (K % 256).toNat).toNat] 5
      go_region_law? (first
        | (refine step_call (f := 70) (vs := #[.int .u64 (IntKind.u64.wrap N), .int .i64 (8 : Nat)]) rfl rfl (by simp [Act.eval, Act.put]) HEB.out (big_at (m := 8) HZ.out (by omega) HNL.out) fun e w' hp => ?_; obtain ⟨g, rfl, hge, hblk, hb⟩ := hp; refine ⟨_, rfl, ?_⟩; have hk := cellsK hb; have hv1 := hk _ _ _ (HV1.out.keep (by first | rfl | exact Below.heap_alloc _ _ _ hl1)); have c0' := hv1.cell (j := 0) rfl; have c1' := hv1.cell (j := 1) rfl; clear hv1)
        | (refine step_of_list rfl fun Q' hQ => ?_
           refine Try.wp_apps44 (S := fun _ => False) (S2 := fun _ => True) (B := w.heap.size) (xs := [UInt8.ofNat (K % 256).toNat]) (ys := beOf 8 (N % 18446744073709551616).toNat) rfl rfl rfl rfl (beOf_len _ _) (by first | exact own_blk (HBOX.out _) (by have := hb.size; simp at this; show w.heap.size ≤ w'.heap.size; omega) (by simp) | exact own_blk (hk _ _ _ ((HBOX.out w1).keep rfl)) (by omega) (by simp)) (blk_bytes (by first | exact hblk | exact hblk.keep (Below.heap_alloc _ _ _ hblk.lt)) (by rw [beOf_len]; simp [maxLen]) trivial) (fun cs y h => h) (fun h => by cases h) (fun _ h => h.elim) (by simp) (by have := hb.size; simp at this ⊢; omega) fun v' w'' hown' hg' => ?_
           have HB2 : Hid (Below w.heap.size w w'') := by
             first
               | exact below_row (HB1.out.trans ((((Below.refl w1.heap.size w1).alloc (Nat.le_refl _) _).drew.trans (hb.mono (by simp))).mono hbs1)) hg' hbs1
               | exact below_row ((HB1.out.trans (((Below.refl w1.heap.size w1).drew.trans (hb.mono (by simp))).mono hbs1)).alloc (by have := hb.size; simp at this; omega) _) hg' (by have := hb.size; simp at this; show w.heap.size ≤ w'.heap.size; omega)
           have HO2 : Hid (Go.Bk.Own (fun _ => False) w'' w.heap.size 5 v' (headOf ⟨K, N⟩)) := hown'
           refine (hQ _ _).2 ?_
           clear hQ Q' hg' hown' hk hb hblk hge))
      all_goals clear HBOX HEB HZ HNL
      all_goals obtain ⟨a8, c8, rfl, h81, h82, h83⟩ := own9 HO2.out
      all_goals clear HO2
      all_goals go_wp2_with fail
      all_goals refine (sum_at h83 (headOf_len _)).mono ?_
      all_goals rintro e w3 ⟨rfl, hq⟩
      all_goals have HS := Lib.hid (sum_lt (headOf ⟨K, N⟩))
      all_goals have HB3 := Lib.hid (HB2.out.trans (hq.below _))
      all_goals have HA3 := Lib.hid (h83.keep (fun b _ => hq.heap b))
      all_goals have HQ := Lib.hid ((hq.below w3.heap.size).size)
      all_goals clear h83 hq
      all_goals go_wp2_with fail
      all_goals refine (big_at (m := 4) (N0 := sumOf (headOf ⟨K, N⟩)) (by have := HS.out; simp [IntKind.wrap, IntKind.signed, IntKind.bits]; omega) (by omega) (by have := HS.out; omega)).mono ?_
      all_goals rintro e w4 ⟨g4, rfl, hge, hblk, hb⟩
      all_goals have HB4 := Lib.hid (HB3.out.trans (hb.mono HB3.out.size))
      all_goals have HA4 : Hid (Arr (· < w4.heap.size) w4 a8 (headOf ⟨K, N⟩)) := (HA3.out.keep (fun b hb' => hb.block b (Nat.lt_of_lt_of_le hb' HQ.out))).mono (fun b hb' => Nat.lt_of_lt_of_le hb' (Nat.le_trans HQ.out hb.size))
      all_goals have HA5 : Hid (Arr (· < w4.heap.size) w4 (some ⟨g4, 0, none⟩) (beOf 4 (sumOf (headOf ⟨K, N⟩)))) := blk_bytes hblk (by rw [beOf_len]; simp [maxLen]) hblk.lt
      all_goals clear hge hblk hb HA3 HQ
      all_goals go_wp2_with fail
      all_goals refine (cat3 (HA.out _ HB4.out) HBN.out hc hnil HA4.out (headOf_len _) h81 h82 HA5.out (beOf_len _ _) (by omega)).mono ?_
      all_goals rintro e w5 ⟨u5, rfl, ho5, hb5⟩
      all_goals have HB5 := Lib.hid (HB4.out.trans ((((Below.refl w4.heap.size w4).alloc (Nat.le_refl _) _).trans (hb5.mono (by simp))).mono HB4.out.size))
      all_goals have HO5 := Lib.hid ho5
      all_goals clear ho5 hb5 HA4 HA5
      all_goals go_wp2_with fail
      all_goals go_ret2
      all_goals exact put_end (HRE.out.trans (by unfold recOf; rfl)) HO5.out (by have := HB4.out.size; simp; omega) HB5.out
    · have HRE : Hid (R = ([], rightOf ⟨K, N⟩)) := by show _ = _; rw [hR]; unfold putOf; rw [if_neg (by rw [HBN.out]; exact hl), if_pos hr]
      clear hR
      have hd2 : decide (rightOf ⟨K, N⟩ = 0) = false := decide_eq_false hr
      go_enter Try.func21, Try.ntmps21
      go_wp2_with fail
      refine (HR.out _).mono ?_
      rintro e w1 ⟨rfl, hb1⟩
      have HB1 : Hid (Below w.heap.size w w1) := ((Below.refl _ _).alloc (Nat.le_refl _) _).trans (hb1.mono (by simp))
      clear hb1
      go_wp2_with fail
      go_ret2
      rw [HRE.out]
      exact ⟨none, 0, rfl, Arr.nil _ _ _, fun _ => rfl, Nat.le_refl _, HB1.out⟩
end Go.Proofs.Ytfdpannanpipdaa.spool
