/- The law SpoolPuts, walked: the two answers are one, for one value and for many. -/
import Derived.Test.YtfdpannanpipdaaSpoolAll
import Derived.Test.YtfdpannanpipdaaSpoolS
import Derived.Test.YtfdpannanpipdaaSized
set_option linter.unusedVariables false
set_option linter.unusedSimpArgs false
namespace Go.Proofs.Ytfdpannanpipdaa.spool
open Go.Bk Go.RowKit

theorem bytes_u8 : Try.prog.bytesOf 5 = 1 := by kernel_rfl
theorem sized_three {P : Program} {W : World} {T T' T'' : TypeId} {args : Array Value} (h : ArgsSized P W [T, T', T''] args.toList) : ∃ v v' v'', args = #[v, v', v''] ∧ ArgSized P W T v ∧ ArgSized P W T' v' ∧ ArgSized P W T'' v'' := by
  obtain ⟨l⟩ := args
  match l, h with
  | [v, v', v''], h => exact ⟨v, v', v'', rfl, h.1, h.2.1, h.2.2.1⟩
theorem same_at {S1 S2 : Nat → Prop} {w : World} {a1 a2 : Option Addr} {c1 c2 n1 n2 : Nat} {xs : List UInt8} (h1 : Arr S1 w a1 xs) (h2 : Arr S2 w a2 xs) (e1 : xs.length = n1) (e2 : xs.length = n2) :
    Calls Try.prog 24 #[.slice a1 n1 c1, .slice a2 n2 c2] w fun e w' => e = .returned (.bool true) ∧ Quiet w w' := by
  subst e1
  subst e2
  exact (same_bytes_any h1 h2).mono fun e w' h => ⟨by rw [h.1]; simp, h.2⟩
def lawRel (w : World) (l : List Api.Val) (b e i : Value) (w' : World) : Prop :=
  ∃ (k : Nat) (bs : List UInt8) (ee : Int) (a : Option Addr) (n c : Nat), k ≤ l.length ∧ i = .int .i64 k ∧ b = .slice a n c ∧ e = .int .i64 ee ∧ allOf (l.take k) = (bs, ee) ∧ bs.length = n ∧ n ≤ c ∧ (a = none → c = 0) ∧ Arr (fun b => w.heap.size ≤ b ∧ b < w'.heap.size) w' a bs ∧ Below w.heap.size w w'

set_option maxRecDepth 100000 in
set_option maxHeartbeats 4000000 in
theorem spoolPuts_walk (W : World) (args : Array Value) (h : ArgsSized Try.prog W [44, 24, 45] args.toList) :
    Calls Try.prog 4 args W fun e W' => e = .returned (.bool true) ∧ Below W.heap.size W W' := by
  obtain ⟨v0, v1, v2, rfl, r0, r1, r2⟩ := sized_three h
  obtain ⟨a, b, c, rfl, hc, hnil, hb⟩ := r0.read.slice Try.underlying44 Try.opens44
  obtain ⟨cs, v, rfl, hv⟩ := r1.read.struct Try.underlying24 Try.opens24
  obtain ⟨a2, l, c2, rfl, hc2, hnil2, hl⟩ := r2.read.slice Try.underlying45 Try.opens45
  have hz := r0.len Try.underlying44
  rw [bytes_u8] at hz
  unfold reachBytes at hz
  obtain ⟨rfl, -, -⟩ := api_Val_cells_eq hv
  obtain ⟨K, N⟩ := v
  dsimp only
  clear r0 r1 r2 h hv
  obtain ⟨m, hm⟩ : ∃ m, m = min l.length 320 := ⟨_, rfl⟩
  have hmn : min (l.length : Int) 320 = (m : Int) := by rw [hm]; omega
  obtain ⟨ls, hls⟩ : ∃ ls, ls = l.take m := ⟨_, rfl⟩
  have HM : Hid (ls.length = m) := by show _ = _; rw [hls, List.length_take]; omega
  have hmc : m ≤ c2 := by omega
  have hm320 : m ≤ 320 := by omega
  have HL : Hid (∀ W', Below W.heap.size W W' → Arr (· < W.heap.size) W' a2 ls) := fun W' hW => hls ▸ (hl.take m).keep (fun b hb => hW.block b hb)
  have HB : Hid (∀ W', Below W.heap.size W W' → Arr (· < W.heap.size) W' a b) := fun W' hW => hb.keep (fun b hb => hW.block b hb)
  have hsl : ∀ w : World, (Instr.slice 45 (.slice a2 l.length c2) none (some (.int .i64 (m : Int))) none).run Try.prog w = .ok (.slice a2 m c2) w := fun w => run_slice_head (z := 2) Try.underlying45 (by kernel_rfl) a2 l.length c2 m hmc w
  obtain ⟨nb, hnb⟩ : ∃ n, b.length = n := ⟨_, rfl⟩
  obtain ⟨nl, hnl⟩ : ∃ n, l.length = n := ⟨_, rfl⟩
  rw [hnb] at hc hz
  rw [hnl] at hmn hc2 hsl
  rw [hnb, hnl]
  have HNB := Lib.hid hnb
  clear hnb hnl hb hl hls hm
  go_enter Try.func4, Try.ntmps4
  go_wp2_with fail
  · obtain rfl : m = 320 := by omega
    clear hmn hsl
    all_goals (
      have HV : Hid (∀ w', Below (W.alloc (.cells #[.int .i64 K, .int .i64 N] 24)).heap.size (W.alloc (.cells #[.int .i64 K, .int .i64 N] 24)) w' → Blk w' W.heap.size 24 [.int .i64 K, .int .i64 N]) := fun w' hw => (blk_new W [.int .i64 K, .int .i64 N] 24).keep (hw.block _ (by simp))
      have HBW : Hid (Below W.heap.size W (W.alloc (.cells #[.int .i64 K, .int .i64 N] 24))) := (Below.refl _ _).alloc (Nat.le_refl _) _
      obtain ⟨P, hP⟩ : ∃ P, putOf b ⟨K, N⟩ = P := ⟨_, rfl⟩
      have HP := Lib.hid hP
      clear hP
      refine (put_at HP.out HNB.out (HB.out _ HBW.out) (fun b hb => by have : b < W.heap.size := hb; simp; omega) hc hnil (by omega)).mono ?_
      rintro e w1 ⟨a3, c3, rfl, ha3, hn3, hc3, hb1⟩
      have HB1 := Lib.hid (HBW.out.trans (hb1.mono HBW.out.size))
      have c0 := (HV.out _ hb1).cell (j := 0) rfl
      have c1 := (HV.out _ hb1).cell (j := 1) rfl
      have HA3 : Hid (∀ w', Below w1.heap.size w1 w' → Arr (fun _ => True) w' a3 P.1) := fun w' hw => (ha3.keep (fun b hb => hw.block b hb.2)).mono fun _ _ => trivial
      clear ha3 hb1 hn3 hc3 HV HBW
      go_wp2_with fail
      refine (rput_at HP.out HNB.out (HB.out _ HB1.out) (fun b hb => Nat.lt_of_lt_of_le hb HB1.out.size) hc hnil).mono ?_
      rintro e w2 ⟨a4, c4, rfl, ha4, hn4, hc4, hb2⟩
      have HB2 := Lib.hid (HB1.out.trans (hb2.mono HB1.out.size))
      have HA4 : Hid (∀ w', Below w2.heap.size w2 w' → Arr (fun _ => True) w' a4 P.1) := fun w' hw => (ha4.keep (fun b hb => hw.block b hb.2)).mono fun _ _ => trivial
      have HA3' : Hid (∀ w', Below w2.heap.size w2 w' → Arr (fun _ => True) w' a3 P.1) := fun w' hw => HA3.out w' (hb2.trans (hw.mono hb2.size))
      clear ha4 hb2 hn4 hc4 HA3 c0 c1
      go_wp2_with fail
      refine (all_any HM.out (HL.out _ HB2.out) (fun b hb => Nat.lt_of_lt_of_le hb HB2.out.size)).mono ?_
      rintro e w3 ⟨a5, c5, rfl, ha5, hn5, hc5, hb3⟩
      have HB3 := Lib.hid (HB2.out.trans (hb3.mono HB2.out.size))
      have HA5 : Hid (∀ w', Below w3.heap.size w3 w' → Arr (fun _ => True) w' a5 (allOf ls).1) := fun w' hw => (ha5.keep (fun b hb => hw.block b hb.2)).mono fun _ _ => trivial
      have HA3 : Hid (∀ w', Below w3.heap.size w3 w' → Arr (fun _ => True) w' a3 P.1) := fun w' hw => HA3'.out w' (hb3.trans (hw.mono hb3.size))
      have HA4' : Hid (∀ w', Below w3.heap.size w3 w' → Arr (fun _ => True) w' a4 P.1) := fun w' hw => HA4.out w' (hb3.trans (hw.mono hb3.size))
      clear ha5 hb3 hn5 hc5 HA3' HA4
      obtain ⟨X, E⟩ := P
      obtain ⟨⟨Y, F⟩, hYF⟩ : ∃ Q, Q = allOf ls := ⟨_, rfl⟩
      rw [← hYF] at HA5
      rw [← hYF]
      have HYF := Lib.hid hYF
      clear hYF HP
      dsimp only at HA5 HA3 HA4'
      dsimp only
      obtain ⟨nx, hnx⟩ : ∃ n, X.length = n := ⟨_, rfl⟩
      obtain ⟨ny, hny⟩ : ∃ n, Y.length = n := ⟨_, rfl⟩
      rw [hnx, hny]
      have HNX := Lib.hid hnx
      have HNY := Lib.hid hny
      clear hnx hny
      go_wp2_with fail
      obtain ⟨w0, hw0⟩ : ∃ w0 : World, w0 = w3 := ⟨_, rfl⟩
      go_loopw [13, 14, 15] (lawRel w0 ls) (fun _ _ i _ => ls.length - (intOf i).toNat)
      case atStart => exact ⟨0, [], 0, none, 0, 0, Nat.zero_le _, rfl, rfl, rfl, rfl, rfl, Nat.le_refl _, fun _ => rfl, Arr.nil _ _ _, hw0 ▸ Below.refl _ _⟩
      case round =>
        obtain ⟨k, bs, ee, ab, n, cb, hk, rfl, rfl, rfl, hst, hbn, hcb, hnb2, harr, hbb⟩ := hrel
        subst hw0
        have HST := Lib.hid hst
        have HBN := Lib.hid hbn
        have HBB := Lib.hid hbb
        have HARR := Lib.hid harr
        have HAB : Hid (∀ W', Below wr.heap.size wr W' → Arr (· < W'.heap.size) W' ab bs) := fun W' hW => (harr.keep (fun b hb' => hW.block b hb'.2)).mono (fun b hb' => Nat.lt_of_lt_of_le hb'.2 hW.size)
        have HBR := Lib.hid (HB3.out.trans (hbb.mono HB3.out.size))
        clear hst hbn hbb harr
        by_cases hlt : k < ls.length
        · have hlt2 := hlt
          rw [HM.out] at hlt2
          by_cases he : ee = 0
          · subst he
            obtain ⟨⟨K2, N2⟩, hx⟩ : ∃ x, ls[k]? = some x := ⟨_, List.getElem?_eq_getElem hlt⟩
            have hl' := HL.out wr HBR.out
            obtain ⟨g, off, rfl, hSg, q0, q1, -, -⟩ := api_Val_elem hl' hx
            have HX : Hid (allOf (ls.take (k + 1)) = putOf bs ⟨K2, N2⟩) := by
              show _ = _
              rw [allOf_succ hx, HST.out]; rfl
            clear hl' hx
            go_wp2_with fail
            obtain ⟨P, hP⟩ : ∃ P, putOf bs ⟨K2, N2⟩ = P := ⟨_, rfl⟩
            have HP := Lib.hid hP
            rw [hP] at HX
            clear hP
            refine (rput_at HP.out HBN.out (HAB.out _ (Below.refl _ _)) (fun b h => h) hcb hnb2).mono ?_
            rintro e w5 ⟨a6, c6, rfl, ha6, hn6, hc6, hb6⟩
            obtain ⟨X2, e2⟩ := P
            have HB6 : Hid (Below w0.heap.size w0 w5) := HBB.out.trans (hb6.mono HBB.out.size)
            have HA6 : Hid (Arr (fun b => w0.heap.size ≤ b ∧ b < w5.heap.size) w5 a6 X2) := ha6.mono fun b hb => ⟨Nat.le_trans HBB.out.size hb.1, hb.2⟩
            dsimp only at hc6
            dsimp only
            obtain ⟨n6, hn6'⟩ : ∃ n, X2.length = n := ⟨_, rfl⟩
            rw [hn6'] at hc6
            rw [hn6']
            have HN6 := Lib.hid hn6'
            clear hn6' ha6 hb6
            go_wp2_with fail
            go_roundw
            case rel => exact ⟨k + 1, X2, e2, a6, n6, c6, hlt, by go_num, rfl, rfl, HX.out, HN6.out, hc6, hn6, HA6.out, HB6.out⟩
            case measure => simp [intOf]; omega
          · have hd : decide (ee = 0) = false := decide_eq_false he
            have HYE : Hid ((bs, ee) = (Y, F)) := by
              show _ = _
              rw [HYF.out, allOf_stuck (k := k) (by rw [HST.out]; exact he), HST.out]
            clear hlt
            go_wp2_with fail
            obtain ⟨rfl, rfl⟩ := Prod.mk.inj HYE.out
            refine (same_at (HA3.out _ HBB.out) (HA4'.out _ HBB.out) HNX.out HNX.out).mono ?_
            rintro e w5 ⟨rfl, hq5⟩
            have HB5 : Hid (Below wr.heap.size wr w5) := hq5.below _
            clear hq5
            go_wp2_with fail
            refine (same_at (HA5.out _ (HBB.out.trans (HB5.out.mono HBB.out.size))) (HAB.out _ HB5.out) HNY.out HBN.out).mono ?_
            rintro e w6 ⟨rfl, hq6⟩
            have HB6 : Hid (Below w5.heap.size w5 w6) := hq6.below _
            clear hq6
            go_wp2_with fail
            go_ret
            exact ⟨by simp, (HBR.out.trans (HB5.out.mono HBR.out.size)).trans (HB6.out.mono (Nat.le_trans HBR.out.size HB5.out.size))⟩
        · have hlt2 := hlt
          rw [HM.out] at hlt2
          have HYE : Hid ((bs, ee) = (Y, F)) := by
            show _ = _
            rw [HYF.out, ← HST.out, List.take_of_length_le (by omega)]
          clear hlt
          go_wp2_with fail
          obtain ⟨rfl, rfl⟩ := Prod.mk.inj HYE.out
          refine (same_at (HA3.out _ HBB.out) (HA4'.out _ HBB.out) HNX.out HNX.out).mono ?_
          rintro e w5 ⟨rfl, hq5⟩
          have HB5 : Hid (Below wr.heap.size wr w5) := hq5.below _
          clear hq5
          go_wp2_with fail
          refine (same_at (HA5.out _ (HBB.out.trans (HB5.out.mono HBB.out.size))) (HAB.out _ HB5.out) HNY.out HBN.out).mono ?_
          rintro e w6 ⟨rfl, hq6⟩
          have HB6 : Hid (Below w5.heap.size w5 w6) := hq6.below _
          clear hq6
          go_wp2_with fail
          go_ret
          exact ⟨by simp, (HBR.out.trans (HB5.out.mono HBR.out.size)).trans (HB6.out.mono (Nat.le_trans HBR.out.size HB5.out.size))⟩)
  · obtain rfl : m = nl := by omega
    clear hmn hsl
    all_goals (
      have HV : Hid (∀ w', Below (W.alloc (.cells #[.int .i64 K, .int .i64 N] 24)).heap.size (W.alloc (.cells #[.int .i64 K, .int .i64 N] 24)) w' → Blk w' W.heap.size 24 [.int .i64 K, .int .i64 N]) := fun w' hw => (blk_new W [.int .i64 K, .int .i64 N] 24).keep (hw.block _ (by simp))
      have HBW : Hid (Below W.heap.size W (W.alloc (.cells #[.int .i64 K, .int .i64 N] 24))) := (Below.refl _ _).alloc (Nat.le_refl _) _
      obtain ⟨P, hP⟩ : ∃ P, putOf b ⟨K, N⟩ = P := ⟨_, rfl⟩
      have HP := Lib.hid hP
      clear hP
      refine (put_at HP.out HNB.out (HB.out _ HBW.out) (fun b hb => by have : b < W.heap.size := hb; simp; omega) hc hnil (by omega)).mono ?_
      rintro e w1 ⟨a3, c3, rfl, ha3, hn3, hc3, hb1⟩
      have HB1 := Lib.hid (HBW.out.trans (hb1.mono HBW.out.size))
      have c0 := (HV.out _ hb1).cell (j := 0) rfl
      have c1 := (HV.out _ hb1).cell (j := 1) rfl
      have HA3 : Hid (∀ w', Below w1.heap.size w1 w' → Arr (fun _ => True) w' a3 P.1) := fun w' hw => (ha3.keep (fun b hb => hw.block b hb.2)).mono fun _ _ => trivial
      clear ha3 hb1 hn3 hc3 HV HBW
      go_wp2_with fail
      refine (rput_at HP.out HNB.out (HB.out _ HB1.out) (fun b hb => Nat.lt_of_lt_of_le hb HB1.out.size) hc hnil).mono ?_
      rintro e w2 ⟨a4, c4, rfl, ha4, hn4, hc4, hb2⟩
      have HB2 := Lib.hid (HB1.out.trans (hb2.mono HB1.out.size))
      have HA4 : Hid (∀ w', Below w2.heap.size w2 w' → Arr (fun _ => True) w' a4 P.1) := fun w' hw => (ha4.keep (fun b hb => hw.block b hb.2)).mono fun _ _ => trivial
      have HA3' : Hid (∀ w', Below w2.heap.size w2 w' → Arr (fun _ => True) w' a3 P.1) := fun w' hw => HA3.out w' (hb2.trans (hw.mono hb2.size))
      clear ha4 hb2 hn4 hc4 HA3 c0 c1
      go_wp2_with fail
      refine (all_any HM.out (HL.out _ HB2.out) (fun b hb => Nat.lt_of_lt_of_le hb HB2.out.size)).mono ?_
      rintro e w3 ⟨a5, c5, rfl, ha5, hn5, hc5, hb3⟩
      have HB3 := Lib.hid (HB2.out.trans (hb3.mono HB2.out.size))
      have HA5 : Hid (∀ w', Below w3.heap.size w3 w' → Arr (fun _ => True) w' a5 (allOf ls).1) := fun w' hw => (ha5.keep (fun b hb => hw.block b hb.2)).mono fun _ _ => trivial
      have HA3 : Hid (∀ w', Below w3.heap.size w3 w' → Arr (fun _ => True) w' a3 P.1) := fun w' hw => HA3'.out w' (hb3.trans (hw.mono hb3.size))
      have HA4' : Hid (∀ w', Below w3.heap.size w3 w' → Arr (fun _ => True) w' a4 P.1) := fun w' hw => HA4.out w' (hb3.trans (hw.mono hb3.size))
      clear ha5 hb3 hn5 hc5 HA3' HA4
      obtain ⟨X, E⟩ := P
      obtain ⟨⟨Y, F⟩, hYF⟩ : ∃ Q, Q = allOf ls := ⟨_, rfl⟩
      rw [← hYF] at HA5
      rw [← hYF]
      have HYF := Lib.hid hYF
      clear hYF HP
      dsimp only at HA5 HA3 HA4'
      dsimp only
      obtain ⟨nx, hnx⟩ : ∃ n, X.length = n := ⟨_, rfl⟩
      obtain ⟨ny, hny⟩ : ∃ n, Y.length = n := ⟨_, rfl⟩
      rw [hnx, hny]
      have HNX := Lib.hid hnx
      have HNY := Lib.hid hny
      clear hnx hny
      go_wp2_with fail
      obtain ⟨w0, hw0⟩ : ∃ w0 : World, w0 = w3 := ⟨_, rfl⟩
      go_loopw [13, 14, 15] (lawRel w0 ls) (fun _ _ i _ => ls.length - (intOf i).toNat)
      case atStart => exact ⟨0, [], 0, none, 0, 0, Nat.zero_le _, rfl, rfl, rfl, rfl, rfl, Nat.le_refl _, fun _ => rfl, Arr.nil _ _ _, hw0 ▸ Below.refl _ _⟩
      case round =>
        obtain ⟨k, bs, ee, ab, n, cb, hk, rfl, rfl, rfl, hst, hbn, hcb, hnb2, harr, hbb⟩ := hrel
        subst hw0
        have HST := Lib.hid hst
        have HBN := Lib.hid hbn
        have HBB := Lib.hid hbb
        have HARR := Lib.hid harr
        have HAB : Hid (∀ W', Below wr.heap.size wr W' → Arr (· < W'.heap.size) W' ab bs) := fun W' hW => (harr.keep (fun b hb' => hW.block b hb'.2)).mono (fun b hb' => Nat.lt_of_lt_of_le hb'.2 hW.size)
        have HBR := Lib.hid (HB3.out.trans (hbb.mono HB3.out.size))
        clear hst hbn hbb harr
        by_cases hlt : k < ls.length
        · have hlt2 := hlt
          rw [HM.out] at hlt2
          by_cases he : ee = 0
          · subst he
            obtain ⟨⟨K2, N2⟩, hx⟩ : ∃ x, ls[k]? = some x := ⟨_, List.getElem?_eq_getElem hlt⟩
            have hl' := HL.out wr HBR.out
            obtain ⟨g, off, rfl, hSg, q0, q1, -, -⟩ := api_Val_elem hl' hx
            have HX : Hid (allOf (ls.take (k + 1)) = putOf bs ⟨K2, N2⟩) := by
              show _ = _
              rw [allOf_succ hx, HST.out]; rfl
            clear hl' hx
            go_wp2_with fail
            obtain ⟨P, hP⟩ : ∃ P, putOf bs ⟨K2, N2⟩ = P := ⟨_, rfl⟩
            have HP := Lib.hid hP
            rw [hP] at HX
            clear hP
            refine (rput_at HP.out HBN.out (HAB.out _ (Below.refl _ _)) (fun b h => h) hcb hnb2).mono ?_
            rintro e w5 ⟨a6, c6, rfl, ha6, hn6, hc6, hb6⟩
            obtain ⟨X2, e2⟩ := P
            have HB6 : Hid (Below w0.heap.size w0 w5) := HBB.out.trans (hb6.mono HBB.out.size)
            have HA6 : Hid (Arr (fun b => w0.heap.size ≤ b ∧ b < w5.heap.size) w5 a6 X2) := ha6.mono fun b hb => ⟨Nat.le_trans HBB.out.size hb.1, hb.2⟩
            dsimp only at hc6
            dsimp only
            obtain ⟨n6, hn6'⟩ : ∃ n, X2.length = n := ⟨_, rfl⟩
            rw [hn6'] at hc6
            rw [hn6']
            have HN6 := Lib.hid hn6'
            clear hn6' ha6 hb6
            go_wp2_with fail
            go_roundw
            case rel => exact ⟨k + 1, X2, e2, a6, n6, c6, hlt, by go_num, rfl, rfl, HX.out, HN6.out, hc6, hn6, HA6.out, HB6.out⟩
            case measure => simp [intOf]; omega
          · have hd : decide (ee = 0) = false := decide_eq_false he
            have HYE : Hid ((bs, ee) = (Y, F)) := by
              show _ = _
              rw [HYF.out, allOf_stuck (k := k) (by rw [HST.out]; exact he), HST.out]
            clear hlt
            go_wp2_with fail
            obtain ⟨rfl, rfl⟩ := Prod.mk.inj HYE.out
            refine (same_at (HA3.out _ HBB.out) (HA4'.out _ HBB.out) HNX.out HNX.out).mono ?_
            rintro e w5 ⟨rfl, hq5⟩
            have HB5 : Hid (Below wr.heap.size wr w5) := hq5.below _
            clear hq5
            go_wp2_with fail
            refine (same_at (HA5.out _ (HBB.out.trans (HB5.out.mono HBB.out.size))) (HAB.out _ HB5.out) HNY.out HBN.out).mono ?_
            rintro e w6 ⟨rfl, hq6⟩
            have HB6 : Hid (Below w5.heap.size w5 w6) := hq6.below _
            clear hq6
            go_wp2_with fail
            go_ret
            exact ⟨by simp, (HBR.out.trans (HB5.out.mono HBR.out.size)).trans (HB6.out.mono (Nat.le_trans HBR.out.size HB5.out.size))⟩
        · have hlt2 := hlt
          rw [HM.out] at hlt2
          have HYE : Hid ((bs, ee) = (Y, F)) := by
            show _ = _
            rw [HYF.out, ← HST.out, List.take_of_length_le (by omega)]
          clear hlt
          go_wp2_with fail
          obtain ⟨rfl, rfl⟩ := Prod.mk.inj HYE.out
          refine (same_at (HA3.out _ HBB.out) (HA4'.out _ HBB.out) HNX.out HNX.out).mono ?_
          rintro e w5 ⟨rfl, hq5⟩
          have HB5 : Hid (Below wr.heap.size wr w5) := hq5.below _
          clear hq5
          go_wp2_with fail
          refine (same_at (HA5.out _ (HBB.out.trans (HB5.out.mono HBB.out.size))) (HAB.out _ HB5.out) HNY.out HBN.out).mono ?_
          rintro e w6 ⟨rfl, hq6⟩
          have HB6 : Hid (Below w5.heap.size w5 w6) := hq6.below _
          clear hq6
          go_wp2_with fail
          go_ret
          exact ⟨by simp, (HBR.out.trans (HB5.out.mono HBR.out.size)).trans (HB6.out.mono (Nat.le_trans HBR.out.size HB5.out.size))⟩)
end Go.Proofs.Ytfdpannanpipdaa.spool
