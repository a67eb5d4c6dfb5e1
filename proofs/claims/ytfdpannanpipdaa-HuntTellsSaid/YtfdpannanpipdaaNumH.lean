/- The n-th interleaving: the document's, walked. -/
import Derived.Test.YtfdpannanpipdaaNumG
set_option linter.unusedVariables false
set_option linter.unusedSimpArgs false
namespace Go.Proofs.Ytfdpannanpipdaa.num
open Go.Bk Go.RowKit

theorem ways_at {S : Nat → Prop} {w : World} {a : Option Addr} {c n : Nat} {qs : List Nat} (hn : qs.length = n) (h : Arr S w a (ints qs)) (hc : n ≤ c) (hs : qs.sum ≤ 12) :
    Calls Try.prog 29 #[.slice a n c] w fun e w' => e = .returned (.int .i64 (ways qs : Nat)) ∧ w = w' := ways_any qs w a c n hn h hc hs
theorem own_box {w : World} {B g : Nat} {x : Int} (h : Blk w g 3 [.int .i64 x]) (hB : B ≤ g) (hx : I64 x) : Own (fun _ => False) w B 3 (.slice (some ⟨g, 0, none⟩) 1 1) [x] :=
  own_int_mk ⟨rfl, .inr ⟨g, 1, _, rfl, hB, h, Nat.le_refl _, by unfold maxLen; omega, rfl, rfl⟩⟩ (fun y hy => by simp at hy; subst hy; exact hx)
def RNthPost (qs : List Nat) (m : Nat) (w : World) (e : Ending) (w' : World) : Prop :=
  ∃ o v, NthIs qs m o ∧ e = .returned v ∧ Own (fun _ => False) w' w.heap.size 3 v (ints o) ∧ Below w.heap.size w w'
def rnthRel (w : World) (qs : List Nat) (m : Nat) (n i : Value) (w' : World) : Prop :=
  ∃ k : Nat, k ≤ qs.length ∧ i = .int .i64 k ∧ n = .int .i64 ((m - pre qs k : Nat) : Int) ∧ pre qs k ≤ m ∧ Below w.heap.size w w'

set_option maxRecDepth 100000 in
set_option maxHeartbeats 2000000 in
theorem rnth_any : ∀ (s : Nat) (qs : List Nat) (S : Nat → Prop) (w : World) (a : Option Addr) (c n m : Nat), qs.sum = s → qs.length = n → Arr S w a (ints qs) → (∀ b, S b → b < w.heap.size) → (a = none → c = 0) → n ≤ c → n ≤ 8 → qs.sum ≤ 12 → m < ways qs →
    Calls Try.prog 30 #[.slice a n c, .int .i64 (m : Nat)] w (RNthPost qs m w) := by
  intro s
  induction s with
  | zero =>
    intro qs S w a c n m hs hn h hS hnil hnc hn8 hs12 hm
    have HN := Lib.hid hn
    have HZ := Lib.hid ((sum_zero_iff qs).1 hs)
    have HD := Lib.hid (NthIs.done (n := m) hs)
    have HAA : Hid (∀ W, Below w.heap.size w W → Arr (· < W.heap.size) W a (ints qs)) := fun W hW => (h.keep fun b hb => hW.block b (hS b hb)).mono fun b hb => Nat.lt_of_lt_of_le (hS b hb) hW.size
    clear hn h hnil hm hs hs12
    go_enter Try.func30, Try.ntmps30
    go_wp2_with fail
    go_loopw [5] (fun i w' => ∃ k : Nat, k ≤ n ∧ i = .int .i64 k ∧ w = w') (fun i _ => n - (intOf i).toNat)
    case atStart => exact ⟨0, Nat.zero_le _, rfl, rfl⟩
    case round =>
      obtain ⟨k, hk, rfl, rfl⟩ := hrel
      by_cases hlt : k < n
      · obtain ⟨q, hq⟩ : ∃ x, qs[k]? = some x := ⟨_, List.getElem?_eq_getElem (by have := HN.out; omega)⟩
        obtain ⟨b0, o0, rfl, -, q0, iq⟩ := arr_int (HAA.out _ (Below.refl _ _)) (ints_get hq)
        obtain rfl : q = 0 := by have := HZ.out k; rwa [getD_of hq] at this
        clear hq
        go_wp2_with fail
        go_roundw
        case rel => exact ⟨k + 1, by omega, by go_num, by first | rfl | trivial⟩
        case measure => simp [intOf]; omega
      · obtain rfl : k = n := by omega
        go_wp2_with fail
        go_ret
        exact ⟨[], _, HD.out, rfl, Own.nil _ _ _ _, Below.refl _ _⟩
  | succ s ih =>
    intro qs S w a c n m hs hn h hS hnil hnc hn8 hs12 hm
    have HN := Lib.hid hn
    have HNI := Lib.hid hnil
    have HIH := Lib.hid ih
    have HAA : Hid (∀ W, Below w.heap.size w W → Arr (· < W.heap.size) W a (ints qs)) := fun W hW => (h.keep fun b hb => hW.block b (hS b hb)).mono fun b hb => Nat.lt_of_lt_of_le (hS b hb) hW.size
    have HM := Lib.hid hm
    have hmb := ways_small hs12
    clear hn h hnil ih hm
    go_enter Try.func30, Try.ntmps30
    go_wp2_with fail
    go_loopw [1, 5] (rnthRel w qs m) (fun _ i _ => n - (intOf i).toNat)
    case atStart => exact ⟨0, Nat.zero_le _, rfl, by simp [pre], Nat.zero_le _, Below.refl _ _⟩
    case round =>
      obtain ⟨k, hk, rfl, rfl, hpre, hb⟩ := hrel
      rw [HN.out] at hk
      have HB := Lib.hid hb
      have hbs := hb.size
      clear hb
      obtain ⟨p, hp⟩ : ∃ p, m - pre qs k = p := ⟨_, rfl⟩
      have HP := Lib.hid hp
      rw [hp]
      have hpm : p ≤ 479001600 := by have := HM.out; omega
      clear hp
      by_cases hlt : k < n
      · obtain ⟨q, hq⟩ : ∃ x, qs[k]? = some x := ⟨_, List.getElem?_eq_getElem (by have := HN.out; omega)⟩
        obtain ⟨b0, o0, rfl, -, q0, iq⟩ := arr_int (HAA.out _ HB.out) (ints_get hq)
        have HG := Lib.hid (getD_of hq)
        clear hq
        by_cases hq0 : q = 0
        · subst hq0
          have HPS : Hid (pre qs (k + 1) = pre qs k) := by show pre qs k + wo qs k = pre qs k; unfold wo; rw [if_pos HG.out]; rfl
          go_wp2_with fail
          go_roundw
          case rel => exact ⟨k + 1, by rw [HN.out]; omega, by go_num, by rw [HPS.out, HP.out], by rw [HPS.out]; exact hpre, HB.out⟩
          case measure => simp [intOf]; omega
        · have hqd : decide ((q : Int) = 0) = false := decide_eq_false (by omega)
          have hg0 : qs.getD k 0 ≠ 0 := by rw [HG.out]; exact hq0
          have HWO : Hid (wo qs k = ways (dec qs k)) := by show _ = _; unfold wo; rw [if_neg hg0]
          have hds := dec_sum qs k hg0
          have HDL : Hid ((dec qs k).length = n) := by show _ = _; rw [dec_len, HN.out]
          have HL1 := Lib.hid (less_any (k := k) (c := c) HN.out (HAA.out _ HB.out) (fun b h => h) hlt HNI.out hg0 hn8)
          go_wp2_with fail
          refine HL1.out.mono ?_
          rintro e w1 ⟨v1, rfl, hown, hb1⟩
          obtain ⟨a1, c1, rfl, hc1, hn1, ha1⟩ := own_len (n := n) hown (by rw [ints_len]; exact HDL.out)
          have HB1 := Lib.hid (HB.out.trans (hb1.mono hbs))
          clear hown hb1 HL1
          go_wp2_with fail
          refine (ways_at HDL.out ha1 hc1 (by omega)).mono ?_
          rintro e w' ⟨rfl, rfl⟩
          rw [← HWO.out]
          obtain ⟨u, hu⟩ : ∃ u, wo qs k = u := ⟨_, rfl⟩
          have HU := Lib.hid hu
          rw [hu]
          clear hu ha1
          by_cases hsel : p < u
          · have HK : Hid (IsSel qs m k) := ⟨hpre, by have := HU.out; have := HP.out; show m < pre qs k + wo qs k; omega⟩
            go_wp2_with fail
            have HBX : Hid (Below w.heap.size w (w1.alloc (.cells #[.int .i64 (k : Nat)] 3))) := below_al HB1.out
            refine (less_any (k := k) (c := c) HN.out (HAA.out _ HBX.out) (fun b h => h) hlt HNI.out hg0 hn8).mono ?_
            rintro e w2 ⟨v2, rfl, hown2, hb2⟩
            obtain ⟨a2, c2, rfl, hc2, hn2, ha2⟩ := own_len (n := n) hown2 (by rw [ints_len]; exact HDL.out)
            have hbox := own_box (x := (k : Nat)) (blk_new w1 [.int .i64 (k : Nat)] 3) HB1.out.size (by unfold I64; omega)
            have hbox2 := hbox.below hb2 (fun _ h => h.elim)
            have HB2 := Lib.hid (HBX.out.trans (hb2.mono HBX.out.size))
            have HI := Lib.hid (HIH.out (dec qs k) _ w2 a2 c2 n p (by omega) HDL.out ha2 (fun b h => h.2) hn2 hc2 hn8 (by omega) (by rw [← HP.out]; exact HK.out.rest))
            have HBOX := Lib.hid hbox2
            clear hown2 hb2 ha2 hbox hbox2
            go_wp2_with fail
            refine HI.out.mono ?_
            rintro e w3 ⟨o, v3, ho, rfl, hown3, hb3⟩
            have HOK := Lib.hid (NthIs.step HK.out (by rw [HP.out]; exact ho))
            have HOL := Lib.hid ho.len
            obtain ⟨a3, c3, rfl, hc3, hn3, ha3⟩ := own_len (n := o.length) hown3 (ints_len o)
            have HBOX3 := Lib.hid (HBOX.out.below hb3 (fun _ h => h.elim))
            have HB3 := Lib.hid (HB2.out.trans (hb3.mono HB2.out.size))
            have HA3 := Lib.hid (ha3.mono (S' := fun _ => True) (fun _ _ => trivial))
            have HN3 := Lib.hid hn3
            have HIL : Hid ((ints o).length = o.length) := ints_len o
            clear hown3 hb3 ha3 ho hn3
            go_wp2_with ((at_builtin; with_reducible refine Try.wp_apps30 rfl rfl rfl rfl (HIL.out) (HBOX3.out) (HA3.out) Try.flat30 (HN3.out) (fun _ h => h.elim) (by (have := HOL.out; simp; omega)) (by exact HB3.out.size) fun v' w' hown' hg' => ?_); have HO4 := Lib.hid hown'; have HG4 := Lib.hid hg'; clear hown' hg')
            have HB4 : Hid (Below w.heap.size w w') := HB3.out.grown HG4.out HB3.out.size (fun r hr => (HBOX3.out.lt r hr).1)
            go_ret
            exact ⟨k :: o, v', HOK.out, rfl, by simpa [ints] using HO4.out, HB4.out⟩
          · go_wp2_with fail
            go_roundw
            case rel => exact ⟨k + 1, by rw [HN.out]; omega, by go_num, by have := HP.out; have := HU.out; congr 1; show _ = ((m - (pre qs k + wo qs k) : Nat) : Int); omega, by have := HP.out; have := HU.out; show pre qs k + wo qs k ≤ m; omega, HB1.out⟩
            case measure => simp [intOf]; omega
      · have := HM.out
        rw [← pre_all qs (by omega), HN.out, show n = k by omega] at this
        omega
end Go.Proofs.Ytfdpannanpipdaa.num
