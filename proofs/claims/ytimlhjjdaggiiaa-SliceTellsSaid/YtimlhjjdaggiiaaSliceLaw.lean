/- The law SliceTells, walked: the answers are one. -/
import Derived.Test.YtimlhjjdaggiiaaSliceF
set_option linter.unusedVariables false
set_option linter.unusedSimpArgs false
namespace Go.Proofs.Ytimlhjjdaggiiaa.slice
open Go.Bk Go.RowKit

def filt (p : Nat → Bool) (q : Nat) : List Int := ((List.range q).filter p).map Int.ofNat
theorem filt_succ (p : Nat → Bool) (q : Nat) : filt p (q + 1) = filt p q ++ (if p q then [(q : Int)] else []) := by
  unfold filt
  rw [List.range_succ, List.filter_append, List.map_append]
  congr 1
  simp only [List.filter_cons, List.filter_nil]
  split <;> simp
theorem filt_len (p : Nat → Bool) (q : Nat) : (filt p q).length ≤ q := by
  unfold filt
  rw [List.length_map]
  exact Nat.le_trans (List.length_filter_le _ _) (by simp)
theorem filt_congr {p p' : Nat → Bool} {n : Nat} (h : ∀ k, k < n → p k = p' k) : filt p n = filt p' n := by
  unfold filt
  congr 1
  exact List.filter_congr (fun k hk => h k (by simpa using hk))
theorem backRes_ok {l : List Api.DDep} {i : Nat} (h : errOf l [(i : Int)] = 0) : backRes l i = (filt (fun n => hangs l i n) l.length, 0) := by
  rw [backRes, if_pos h, Int.toNat_natCast]
  congr 1
  refine filt_congr (p := fun n => [backOf l i].all fun s => s.getD n false) fun k hk => ?_
  simp [backOf, List.getD_eq_getElem?_getD, List.getElem?_range hk]
theorem onRes_ok {l : List Api.DDep} {i : Nat} (h : errOf l [(i : Int)] = 0) : onRes l i = (filt (fun n => hangs l n i) l.length, 0) := by
  rw [onRes, if_pos h, Int.toNat_natCast]
  congr 1
  refine filt_congr (p := fun n => [onOf l i].all fun s => s.getD n false) fun k hk => ?_
  simp [onOf, List.getD_eq_getElem?_getD, List.getElem?_range hk]
theorem chopRes_ok {l : List Api.DDep} {i j : Nat} (h : errOf l [(i : Int), (j : Int)] = 0) : chopRes l i j = (filt (fun n => hangs l n i && hangs l j n) l.length, 0) := by
  rw [chopRes, if_pos h, Int.toNat_natCast, Int.toNat_natCast]
  congr 1
  refine filt_congr (p := fun n => [onOf l i, backOf l j].all fun s => s.getD n false) fun k hk => ?_
  simp [onOf, backOf, List.getD_eq_getElem?_getD, List.getElem?_range hk]

theorem bback_at {S : Nat → Prop} {w : World} {a : Option Addr} {c n : Nat} {l : List Api.DDep} {i : Int} (h : Arr S w a l) (hS : ∀ b, S b → b < w.heap.size) (hi : I64 i) (hn : l.length = n) :
    Calls Try.prog 43 #[.slice a n c, .int .i64 i] w (RetLE w (backRes l i)) := hn ▸ bback_any h hS hi
theorem oon_at {S : Nat → Prop} {w : World} {a : Option Addr} {c n : Nat} {l : List Api.DDep} {i : Int} (h : Arr S w a l) (hS : ∀ b, S b → b < w.heap.size) (hi : I64 i) (hn : l.length = n) :
    Calls Try.prog 44 #[.slice a n c, .int .i64 i] w (RetLE w (onRes l i)) := hn ▸ oon_any h hS hi
theorem chop_at {S : Nat → Prop} {w : World} {a : Option Addr} {c n : Nat} {l : List Api.DDep} {i j : Int} (h : Arr S w a l) (hS : ∀ b, S b → b < w.heap.size) (hi : I64 i) (hj : I64 j) (hn : l.length = n) :
    Calls Try.prog 45 #[.slice a n c, .int .i64 i, .int .i64 j] w (RetLE w (chopRes l i j)) := hn ▸ chop_any h hS hi hj
theorem rerr_at {S S2 : Nat → Prop} {w : World} {a a2 : Option Addr} {c c2 n n2 : Nat} {l : List Api.DDep} {ps : List Int} (h : Arr S w a l) (h2 : Arr S2 w a2 ps) (hn : l.length = n) (hn2 : ps.length = n2) :
    Calls Try.prog 46 #[.slice a n c, .slice a2 n2 c2] w fun e w' => e = .returned (.int .i64 (errOf l ps)) ∧ Quiet w w' := hn ▸ hn2 ▸ rerr_any h h2
theorem rhangs_at {S : Nat → Prop} {w : World} {a : Option Addr} {c m : Nat} {l : List Api.DDep} {i n : Nat} (h : Arr S w a l) (hS : ∀ b, S b → b < w.heap.size) (hv : Valid l) (hi : i < l.length) (hn : n < l.length) (hlen : l.length ≤ 200) (hm : l.length = m) :
    Calls Try.prog 47 #[.slice a m c, .int .i64 i, .int .i64 n] w fun e w' => e = .returned (.bool (hangs l i n)) ∧ Below w.heap.size w w' := hm ▸ rhangs_any h hS hv hi hn hlen

def chopAt (l : List Api.DDep) (i j : Nat) (ok : Bool) (q : Nat) : List Int := if ok then filt (fun n => hangs l n i && hangs l j n) q else []
theorem chopAt_succ (l : List Api.DDep) (i j : Nat) (ok : Bool) (q : Nat) : chopAt l i j ok (q + 1) = chopAt l i j ok q ++ (if (ok && hangs l q i && hangs l j q) = true then [(q : Int)] else []) := by
  unfold chopAt
  cases ok with
  | false => simp
  | true => simp only [if_true, Bool.true_and]; rw [filt_succ]
theorem chopAt_len (l : List Api.DDep) (i j : Nat) (ok : Bool) (q : Nat) : (chopAt l i j ok q).length ≤ q := by
  unfold chopAt
  split
  · exact filt_len _ _
  · simp
def lawRel (w : World) (B m : Nat) (l : List Api.DDep) (i j : Nat) (ok : Bool) (b o c n : Value) (w' : World) : Prop :=
  ∃ q : Nat, q ≤ m ∧ n = .int .i64 q ∧ Own (fun _ => False) w' B 3 b (filt (fun n => hangs l i n) q) ∧ Own (fun _ => False) w' B 3 o (filt (fun n => hangs l n i) q) ∧ Own (fun _ => False) w' B 3 c (chopAt l i j ok q) ∧
    Apart b o ∧ Apart b c ∧ Apart o c ∧ Grow w w'

set_option maxRecDepth 100000 in
set_option maxHeartbeats 4000000 in
theorem sliceTells_walk (W : World) (args : Array Value) (h : ArgsRead Try.prog W [91, 3, 3] args.toList) :
    Calls Try.prog 10 args W fun e W' => e = .returned (.bool true) ∧ Below W.heap.size W W' := by
  obtain ⟨v0, v1, v2, rfl, r0, r1, r2⟩ := h.three
  obtain ⟨a, l, c, rfl, hc, -, h0⟩ := r0.slice Try.underlying91 Try.opens91
  obtain ⟨i, rfl, hi⟩ := r1.int Try.underlying3
  obtain ⟨j, rfl, hj⟩ := r2.int Try.underlying3
  clear r0 r1 r2 h
  have hm := h0.small
  unfold maxLen at hm
  have hcase : 200 < l.length ∨ (40 < l.length ∧ l.length ≤ 200) ∨ l.length ≤ 40 := by omega
  rcases hcase with hl | ⟨hl1, hl2⟩ | hl
  · have hle : decide ((l.length : Int) ≤ 200) = false := by simp; omega
    have HL : Hid (200 < l.length ∨ l.length ≤ 40) := .inl hl
    obtain ⟨m, hml⟩ : ∃ m, l.length = m := ⟨_, rfl⟩
    rw [hml] at hle hm ⊢
    have HM := Lib.hid hml
    clear hl hc hml
    go_enter Try.func10, Try.ntmps10
    go_wp2_with fail
    refine (bback_at h0 (fun _ h => h) hi HM.out).mono ?_
    rintro e w1 ⟨⟨a1, c1, rfl, k1, -⟩, hb1⟩
    have H1 := Lib.hid hb1; have K1 := Lib.hid k1
    have h1 := h0.keep (w' := w1) (keep_of_below hb1)
    clear k1 hb1
    go_wp2_with fail
    refine (oon_at h1 (fun b hb => Nat.lt_of_lt_of_le hb H1.out.size) hi HM.out).mono ?_
    rintro e w2 ⟨⟨a2, c2, rfl, k2, -⟩, hb2⟩
    have H2 := Lib.hid (mild_grow.trans H1.out hb2); have K1 := Lib.hid (K1.out.later hb2); have K2 := Lib.hid k2
    have h2 := h0.keep (w' := w2) (keep_of_below H2.out)
    have hs12 := hb2.size
    clear k2 hb2 h1 H1
    go_wp2_with fail
    refine (chop_at h2 (fun b hb => Nat.lt_of_lt_of_le hb H2.out.size) hi hj HM.out).mono ?_
    rintro e w3 ⟨⟨a3, c3, rfl, k3, -⟩, hb3⟩
    have H3 := Lib.hid (mild_grow.trans H2.out hb3); have K1 := Lib.hid (K1.out.still (fun b hb => Nat.lt_of_lt_of_le hb.2 hs12) hb3); have K2 := Lib.hid (K2.out.later hb3); have K3 := Lib.hid k3
    have hs23 := hb3.size
    clear k3 hb3 h2 H2
    go_wp2_with fail
    refine cut_calls (fun wz => Grow w3 wz ∧ Arr (fun _ => True) wz (some ⟨w3.heap.size, 0, none⟩) [i]) ?_ ?_
    · exact ⟨(Below.refl _ _).alloc (Nat.le_refl _) _, Blk.arr (zs := [i]) (blk_new w3 [.int .i64 i] _) (by simpa using hi) (by simp [maxLen]) trivial⟩
    rintro w4 ⟨hb4, hp4⟩
    have H4 := Lib.hid (mild_grow.trans H3.out hb4); have G4 := Lib.hid hb4
    refine (rerr_at (h0.keep (w' := w4) (keep_of_below H4.out)) hp4 HM.out rfl).mono ?_
    rintro e w5 ⟨rfl, hq5⟩
    have G5 := Lib.hid (mild_grow.trans G4.out (hq5.below _)); have H5 := Lib.hid (mild_grow.trans H3.out G5.out)
    clear hb4 hp4 H4 G4 hq5
    go_wp2_with fail
    refine cut_calls (fun wz => Grow w5 wz ∧ Arr (fun _ => True) wz (some ⟨w5.heap.size, 0, none⟩) [i, j]) ?_ ?_
    · exact ⟨(Below.refl _ _).alloc (Nat.le_refl _) _, Blk.arr (zs := [i, j]) (blk_new w5 [.int .i64 i, .int .i64 j] _) (by simpa using ⟨hi, hj⟩) (by simp [maxLen]) trivial⟩
    rintro w6 ⟨hb6, hp6⟩
    have H6 := Lib.hid (mild_grow.trans H5.out hb6); have G6 := Lib.hid (mild_grow.trans G5.out hb6)
    refine (rerr_at (h0.keep (w' := w6) (keep_of_below H6.out)) hp6 HM.out rfl).mono ?_
    rintro e w7 ⟨rfl, hq7⟩
    have G7 := Lib.hid (mild_grow.trans G6.out (hq7.below _)); have H7 := Lib.hid (mild_grow.trans H3.out G7.out)
    have K1 := Lib.hid (K1.out.still (fun b hb => Nat.lt_of_lt_of_le hb.2 (Nat.le_trans hs12 hs23)) G7.out)
    have K2 := Lib.hid (K2.out.still (fun b hb => Nat.lt_of_lt_of_le hb.2 hs23) G7.out)
    have K3 := Lib.hid (K3.out.later G7.out)
    have hs17 : w1.heap.size ≤ w7.heap.size := Nat.le_trans hs12 (Nat.le_trans hs23 G7.out.size)
    have hs27 : w2.heap.size ≤ w7.heap.size := Nat.le_trans hs23 G7.out.size
    have hs37 := G7.out.size
    clear hb6 hp6 H6 G6 hq7 H5 G5 H3 G7
    by_cases he : errOf l [i] = 0
    · obtain ⟨hl200, hv, ha⟩ := errOf_zero he
      obtain ⟨k, rfl, hk⟩ := err_place ha
      have HV := Lib.hid hv
      have hkm : k < m := by rw [← HM.out]; exact hk
      have hm40 : m ≤ 40 := by have := HL.out; have := HM.out; omega
      have HKL := Lib.hid hk; have HL2 := Lib.hid hl200
      have E1 := backRes_ok he; have E2 := onRes_ok he
      rw [HM.out] at E1 E2
      rw [E1] at K1; rw [E2] at K2; rw [E1, E2, he]
      clear ha hv hk he E1 E2 hl200 hi
      obtain ⟨ok, q2, hok⟩ : ∃ (ok : Bool) (jn : Nat), (ok = true → j = jn ∧ jn < m ∧ errOf l [(k : Int), j] = 0 ∧ chopRes l k j = (chopAt l k jn ok m, 0)) ∧ (ok = false → errOf l [(k : Int), j] ≠ 0 ∧ chopRes l k j = (chopAt l k jn ok m, errOf l [(k : Int), j])) := by
        by_cases h2 : errOf l [(k : Int), j] = 0
        · obtain ⟨-, -, ha⟩ := errOf_zero h2
          obtain ⟨-, ⟨jn, rfl, hjn⟩⟩ := err_places ha
          refine ⟨true, jn, fun _ => ⟨rfl, by rw [← HM.out]; exact hjn, h2, ?_⟩, (fun h => by cases h)⟩
          rw [chopRes_ok h2, HM.out]; rfl
        · exact ⟨false, 0, (fun h => by cases h), fun _ => ⟨h2, by rw [chopRes, if_neg h2]; rfl⟩⟩
      have hcr : chopRes l k j = (chopAt l k q2 ok m, errOf l [(k : Int), j]) := by
        cases ok with
        | true => rw [(hok.1 rfl).2.2.1]; exact (hok.1 rfl).2.2.2
        | false => exact (hok.2 rfl).2
      rw [hcr] at K3; rw [hcr]
      have hvok : (errOf l [(k : Int), j] == 0) = ok := by
        cases ok with
        | true => simp [(hok.1 rfl).2.2.1]
        | false => simpa using (hok.2 rfl).1
      have HJ : Hid (ok = true → j = q2 ∧ q2 < m) := fun h => ⟨(hok.1 h).1, (hok.1 h).2.1⟩
      generalize errOf l [(k : Int), j] = V at *
      clear hok hcr
      go_wp2_with fail
      go_loopw [15, 16, 17, 18] (lawRel w7 w7.heap.size m l k q2 ok) (fun _ _ _ n _ => m - (intOf n).toNat)
      case atStart => exact ⟨0, Nat.zero_le _, rfl, Own.nil _ _ _ _, Own.nil _ _ _ _, by cases ok <;> exact Own.nil _ _ _ _, Apart.nil_left _ _ _, Apart.nil_left _ _ _, Apart.nil_left _ _ _, Below.refl _ _⟩
      case round =>
        obtain ⟨q, hq, rfl, o1, o2, o3, p1, p2, p3, hg⟩ := hrel
        have O1 := Lib.hid o1; have O2 := Lib.hid o2; have O3 := Lib.hid o3; have P1 := Lib.hid p1; have P2 := Lib.hid p2; have P3 := Lib.hid p3; have G := Lib.hid hg
        clear o1 o2 o3 p1 p2 p3 hg
        by_cases hlt : q < m
        · have HKQ : Hid (q < l.length) := by show q < _; rw [HM.out]; exact hlt
          have hcell : ∀ w : World, Rep.cells (fun _ => False) w [.int .i64 (q : Int)] (q : Int) := fun w => cells_int (by unfold I64; omega)
          have hl1 := filt_len (fun n => hangs l k n) q
          have hl2 := filt_len (fun n => hangs l n k) q
          have hl3 := chopAt_len l k q2 ok q
          have F1 := Lib.hid (filt_succ (fun n => hangs l k n) q); have F2 := Lib.hid (filt_succ (fun n => hangs l n k) q); have F3 := Lib.hid (chopAt_succ l k q2 ok q)
          generalize filt (fun n => hangs l k n) q = X1 at *
          generalize filt (fun n => hangs l n k) q = X2 at *
          generalize chopAt l k q2 ok q = X3 at *
          have HA : Hid (∀ w', Grow w7 w' → Arr (fun x => x < W.heap.size) w' a l) := fun w' hw => h0.keep (keep_of_below (mild_grow.trans H7.out hw))
          have HSZ : Hid (∀ w', Grow w7 w' → ∀ b, b < W.heap.size → b < w'.heap.size) := fun w' hw b hb => Nat.lt_of_lt_of_le hb (mild_grow.trans H7.out hw).size
          have hok2 := hvok
          cases ok
          case' false =>
            have hV : ¬ V = 0 := by simpa using hvok
            go_wp2_with fail
            refine (rhangs_at (HA.out _ G.out) (HSZ.out _ G.out) HV.out HKL.out HKQ.out HL2.out HM.out).mono ?_
            rintro e w8 ⟨rfl, hb8⟩
            have O1 := Lib.hid (O1.out.below hb8 (fun _ h => h.elim)); have O2 := Lib.hid (O2.out.below hb8 (fun _ h => h.elim)); have O3 := Lib.hid (O3.out.below hb8 (fun _ h => h.elim)); have G := Lib.hid (mild_grow.trans G.out hb8)
            clear hb8
            have hbase := G.out.size
            generalize hangs l k q = b1 at *
            cases b1
            case' true =>
              have F1 : Hid (filt (fun n => hangs l k n) (q + 1) = X1 ++ [(q : Int)]) := by show _ = _; rw [F1.out]; simp
              go_wp2_with (at_builtin; with_reducible refine Try.wp_appd22 rfl rfl rfl rfl rfl (by first | rfl | simp) (O1.out) (hcell _) (fun _ h => h.elim) (by omega) (by first | omega | (simp; omega)) fun v' w' hown' hg' hst' => ?_)
              have TO2 : ∀ k, u16.ownBlock = some k → k < w8.heap.size := fun k hk => (O2.out.lt k hk).2
              have O2 := Lib.hid (O2.out.apart hg' P1.out (fun _ h => h.elim))
              have P1 := Lib.hid ((P1.out.moved hst' TO2))
              have TO3 : ∀ k, u17.ownBlock = some k → k < w8.heap.size := fun k hk => (O3.out.lt k hk).2
              have O3 := Lib.hid (O3.out.apart hg' P2.out (fun _ h => h.elim))
              have P2 := Lib.hid ((P2.out.moved hst' TO3))
              have G := Lib.hid (G.out.grown hg' hbase (fun k hk => (O1.out.lt k hk).1))
              have O1 := Lib.hid hown'
              clear hown' hg' hst' TO2 TO3
              obtain ⟨w8, rfl⟩ : ∃ x : World, x = w' := ⟨_, rfl⟩
              obtain ⟨u15, rfl⟩ : ∃ x : Value, x = v' := ⟨_, rfl⟩
            case' false =>
              have F1 : Hid (filt (fun n => hangs l k n) (q + 1) = X1) := by show _ = _; rw [F1.out]; simp
              go_wp2_with fail
            all_goals
              refine (rhangs_at (HA.out _ G.out) (HSZ.out _ G.out) HV.out HKQ.out HKL.out HL2.out HM.out).mono ?_
              rintro e w9 ⟨rfl, hb8⟩
              have O1 := Lib.hid (O1.out.below hb8 (fun _ h => h.elim)); have O2 := Lib.hid (O2.out.below hb8 (fun _ h => h.elim)); have O3 := Lib.hid (O3.out.below hb8 (fun _ h => h.elim)); have G := Lib.hid (mild_grow.trans G.out hb8)
              clear hb8
              have hbase := G.out.size
              obtain ⟨w8, rfl⟩ : ∃ x : World, x = w9 := ⟨_, rfl⟩
              obtain ⟨b2, hb2⟩ : ∃ b2, b2 = hangs l q k := ⟨_, rfl⟩
              rw [← hb2] at F2 F3 ⊢
              have HB2 := Lib.hid hb2
              clear hb2
              cases b2
              case' true =>
                have F2 : Hid (filt (fun n => hangs l n k) (q + 1) = X2 ++ [(q : Int)]) := by show _ = _; rw [F2.out]; simp
                go_wp2_with (at_builtin; with_reducible refine Try.wp_appd22 rfl rfl rfl rfl rfl (by first | rfl | simp) (O2.out) (hcell _) (fun _ h => h.elim) (by omega) (by first | omega | (simp; omega)) fun v' w' hown' hg' hst' => ?_)
                have TO1 : ∀ k, u15.ownBlock = some k → k < w8.heap.size := fun k hk => (O1.out.lt k hk).2
                have O1 := Lib.hid (O1.out.apart hg' P1.out.symm (fun _ h => h.elim))
                have P1 := Lib.hid ((P1.out.symm.moved hst' TO1).symm)
                have TO3 : ∀ k, u17.ownBlock = some k → k < w8.heap.size := fun k hk => (O3.out.lt k hk).2
                have O3 := Lib.hid (O3.out.apart hg' P3.out (fun _ h => h.elim))
                have P3 := Lib.hid ((P3.out.moved hst' TO3))
                have G := Lib.hid (G.out.grown hg' hbase (fun k hk => (O2.out.lt k hk).1))
                have O2 := Lib.hid hown'
                clear hown' hg' hst' TO1 TO3
                obtain ⟨w8, rfl⟩ : ∃ x : World, x = w' := ⟨_, rfl⟩
                obtain ⟨u16, rfl⟩ : ∃ x : Value, x = v' := ⟨_, rfl⟩
              case' false =>
                have F2 : Hid (filt (fun n => hangs l n k) (q + 1) = X2) := by show _ = _; rw [F2.out]; simp
                go_wp2_with fail
              all_goals
                have F3 : Hid (chopAt l k q2 false (q + 1) = X3) := by show _ = _; rw [F3.out]; simp
                go_roundw
                case rel => exact ⟨q + 1, by omega, by go_num, by rw [F1.out]; exact O1.out, by rw [F2.out]; exact O2.out, by rw [F3.out]; exact O3.out, P1.out, P2.out, P3.out, G.out⟩
                case measure => simp [intOf] <;> omega
          case' true =>
            obtain rfl : V = 0 := by simpa using hvok
            obtain ⟨hj2, hqm⟩ := HJ.out rfl
            subst hj2
            go_wp2_with fail
            refine (rhangs_at (HA.out _ G.out) (HSZ.out _ G.out) HV.out HKL.out HKQ.out HL2.out HM.out).mono ?_
            rintro e w8 ⟨rfl, hb8⟩
            have O1 := Lib.hid (O1.out.below hb8 (fun _ h => h.elim)); have O2 := Lib.hid (O2.out.below hb8 (fun _ h => h.elim)); have O3 := Lib.hid (O3.out.below hb8 (fun _ h => h.elim)); have G := Lib.hid (mild_grow.trans G.out hb8)
            clear hb8
            have hbase := G.out.size
            generalize hangs l k q = b1 at *
            cases b1
            case' true =>
              have F1 : Hid (filt (fun n => hangs l k n) (q + 1) = X1 ++ [(q : Int)]) := by show _ = _; rw [F1.out]; simp
              go_wp2_with (at_builtin; with_reducible refine Try.wp_appd22 rfl rfl rfl rfl rfl (by first | rfl | simp) (O1.out) (hcell _) (fun _ h => h.elim) (by omega) (by first | omega | (simp; omega)) fun v' w' hown' hg' hst' => ?_)
              have TO2 : ∀ k, u16.ownBlock = some k → k < w8.heap.size := fun k hk => (O2.out.lt k hk).2
              have O2 := Lib.hid (O2.out.apart hg' P1.out (fun _ h => h.elim))
              have P1 := Lib.hid ((P1.out.moved hst' TO2))
              have TO3 : ∀ k, u17.ownBlock = some k → k < w8.heap.size := fun k hk => (O3.out.lt k hk).2
              have O3 := Lib.hid (O3.out.apart hg' P2.out (fun _ h => h.elim))
              have P2 := Lib.hid ((P2.out.moved hst' TO3))
              have G := Lib.hid (G.out.grown hg' hbase (fun k hk => (O1.out.lt k hk).1))
              have O1 := Lib.hid hown'
              clear hown' hg' hst' TO2 TO3
              obtain ⟨w8, rfl⟩ : ∃ x : World, x = w' := ⟨_, rfl⟩
              obtain ⟨u15, rfl⟩ : ∃ x : Value, x = v' := ⟨_, rfl⟩
            case' false =>
              have F1 : Hid (filt (fun n => hangs l k n) (q + 1) = X1) := by show _ = _; rw [F1.out]; simp
              go_wp2_with fail
            all_goals
              refine (rhangs_at (HA.out _ G.out) (HSZ.out _ G.out) HV.out HKQ.out HKL.out HL2.out HM.out).mono ?_
              rintro e w9 ⟨rfl, hb8⟩
              have O1 := Lib.hid (O1.out.below hb8 (fun _ h => h.elim)); have O2 := Lib.hid (O2.out.below hb8 (fun _ h => h.elim)); have O3 := Lib.hid (O3.out.below hb8 (fun _ h => h.elim)); have G := Lib.hid (mild_grow.trans G.out hb8)
              clear hb8
              have hbase := G.out.size
              obtain ⟨w8, rfl⟩ : ∃ x : World, x = w9 := ⟨_, rfl⟩
              obtain ⟨b2, hb2⟩ : ∃ b2, b2 = hangs l q k := ⟨_, rfl⟩
              rw [← hb2] at F2 F3 ⊢
              have HB2 := Lib.hid hb2
              clear hb2
              cases b2
              case' true =>
                have F2 : Hid (filt (fun n => hangs l n k) (q + 1) = X2 ++ [(q : Int)]) := by show _ = _; rw [F2.out]; simp
                go_wp2_with (at_builtin; with_reducible refine Try.wp_appd22 rfl rfl rfl rfl rfl (by first | rfl | simp) (O2.out) (hcell _) (fun _ h => h.elim) (by omega) (by first | omega | (simp; omega)) fun v' w' hown' hg' hst' => ?_)
                have TO1 : ∀ k, u15.ownBlock = some k → k < w8.heap.size := fun k hk => (O1.out.lt k hk).2
                have O1 := Lib.hid (O1.out.apart hg' P1.out.symm (fun _ h => h.elim))
                have P1 := Lib.hid ((P1.out.symm.moved hst' TO1).symm)
                have TO3 : ∀ k, u17.ownBlock = some k → k < w8.heap.size := fun k hk => (O3.out.lt k hk).2
                have O3 := Lib.hid (O3.out.apart hg' P3.out (fun _ h => h.elim))
                have P3 := Lib.hid ((P3.out.moved hst' TO3))
                have G := Lib.hid (G.out.grown hg' hbase (fun k hk => (O2.out.lt k hk).1))
                have O2 := Lib.hid hown'
                clear hown' hg' hst' TO1 TO3
                obtain ⟨w8, rfl⟩ : ∃ x : World, x = w' := ⟨_, rfl⟩
                obtain ⟨u16, rfl⟩ : ∃ x : Value, x = v' := ⟨_, rfl⟩
              case' false =>
                have F2 : Hid (filt (fun n => hangs l n k) (q + 1) = X2) := by show _ = _; rw [F2.out]; simp
                go_wp2_with fail
              all_goals
                rw [Bool.true_and] at F3
                refine (rhangs_at (HA.out _ G.out) (HSZ.out _ G.out) HV.out HKQ.out HKL.out HL2.out HM.out).mono ?_
                rintro e w9 ⟨rfl, hb8⟩
                have O1 := Lib.hid (O1.out.below hb8 (fun _ h => h.elim)); have O2 := Lib.hid (O2.out.below hb8 (fun _ h => h.elim)); have O3 := Lib.hid (O3.out.below hb8 (fun _ h => h.elim)); have G := Lib.hid (mild_grow.trans G.out hb8)
                clear hb8
                have hbase := G.out.size
                obtain ⟨w8, rfl⟩ : ∃ x : World, x = w9 := ⟨_, rfl⟩
                rw [← HB2.out]
                clear HB2
                have hq2l : q2 < l.length := by rw [HM.out]; exact hqm
                first
                | (have F3 : Hid (chopAt l k q2 true (q + 1) = X3) := by show _ = _; rw [F3.out]; simp
                   go_wp2_with fail
                   go_roundw
                   case rel => exact ⟨q + 1, by omega, by go_num, by rw [F1.out]; exact O1.out, by rw [F2.out]; exact O2.out, by rw [F3.out]; exact O3.out, P1.out, P2.out, P3.out, G.out⟩
                   case measure => simp [intOf] <;> omega)
                | (rw [Bool.true_and] at F3
                   go_wp2_with fail
                   refine (rhangs_at (HA.out _ G.out) (HSZ.out _ G.out) HV.out hq2l HKQ.out HL2.out HM.out).mono ?_
                   rintro e w9 ⟨rfl, hb8⟩
                   have O1 := Lib.hid (O1.out.below hb8 (fun _ h => h.elim)); have O2 := Lib.hid (O2.out.below hb8 (fun _ h => h.elim)); have O3 := Lib.hid (O3.out.below hb8 (fun _ h => h.elim)); have G := Lib.hid (mild_grow.trans G.out hb8)
                   clear hb8
                   have hbase := G.out.size
                   generalize hangs l q2 q = b3 at *
                   cases b3
                   case false =>
                     have F3 : Hid (chopAt l k q2 true (q + 1) = X3) := by show _ = _; rw [F3.out]; simp
                     go_wp2_with fail
                     go_roundw
                     case rel => exact ⟨q + 1, by omega, by go_num, by rw [F1.out]; exact O1.out, by rw [F2.out]; exact O2.out, by rw [F3.out]; exact O3.out, P1.out, P2.out, P3.out, G.out⟩
                     case measure => simp [intOf] <;> omega
                   case true =>
                     have F3 : Hid (chopAt l k q2 true (q + 1) = X3 ++ [(q : Int)]) := by show _ = _; rw [F3.out]; simp
                     go_wp2_with (at_builtin; with_reducible refine Try.wp_appd22 rfl rfl rfl rfl rfl (by first | rfl | simp) (O3.out) (hcell _) (fun _ h => h.elim) (by omega) (by first | omega | (simp; omega)) fun v' w' hown' hg' hst' => ?_)
                     have TO1 : ∀ k, u15.ownBlock = some k → k < w9.heap.size := fun k hk => (O1.out.lt k hk).2
                     have TO2 : ∀ k, u16.ownBlock = some k → k < w9.heap.size := fun k hk => (O2.out.lt k hk).2
                     have O1 := Lib.hid (O1.out.apart hg' P2.out.symm (fun _ h => h.elim)); have O2 := Lib.hid (O2.out.apart hg' P3.out.symm (fun _ h => h.elim))
                     have P2 := Lib.hid ((P2.out.symm.moved hst' TO1).symm); have P3 := Lib.hid ((P3.out.symm.moved hst' TO2).symm)
                     have G := Lib.hid (G.out.grown hg' hbase (fun k hk => (O3.out.lt k hk).1))
                     have O3 := Lib.hid hown'
                     clear hown' hg' hst' TO1 TO2
                     go_roundw
                     case rel => exact ⟨q + 1, by omega, by go_num, by rw [F1.out]; exact O1.out, by rw [F2.out]; exact O2.out, by rw [F3.out]; exact O3.out, P1.out, P2.out, P3.out, G.out⟩
                     case measure => simp [intOf] <;> omega)
        · obtain rfl : q = m := by omega
          obtain ⟨b1, d1, rfl, -, -, x1⟩ := own_fresh O1.out
          obtain ⟨b2, d2, rfl, -, -, x2⟩ := own_fresh O2.out
          obtain ⟨b3, d3, rfl, -, -, x3⟩ := own_fresh O3.out
          have X1 := Lib.hid x1; have X2 := Lib.hid x2; have X3 := Lib.hid x3
          have Y1 := Lib.hid (K1.out.keep (w' := wr) (fun b hb => G.out.block b (Nat.lt_of_lt_of_le hb.2 hs17))); have Y2 := Lib.hid (K2.out.keep (w' := wr) (fun b hb => G.out.block b (Nat.lt_of_lt_of_le hb.2 hs27))); have Y3 := Lib.hid (K3.out.keep (w' := wr) (fun b hb => G.out.block b (Nat.lt_of_lt_of_le hb.2 hs37)))
          have HG := Lib.hid (mild_grow.trans H7.out G.out)
          have hvv : (V == V) = true := by simp
          clear x1 x2 x3 K1 K2 K3 O1 O2 O3 hvok HJ h0
          go_wp2_with fail
          refine (same_ints_refl Y1.out X1.out).mono ?_
          rintro e z1 ⟨rfl, hz1⟩
          have Z1 := Lib.hid hz1
          clear hz1
          go_wp2_with fail
          refine (same_ints_refl (Y2.out.keep (fun b _ => Z1.out.heap b)) (X2.out.keep (fun b _ => Z1.out.heap b))).mono ?_
          rintro e z2 ⟨rfl, hz2⟩
          have Z2 := Lib.hid (Z1.out.trans hz2)
          clear hz2
          go_wp2_with fail
          refine (same_ints_refl (Y3.out.keep (fun b _ => Z2.out.heap b)) (X3.out.keep (fun b _ => Z2.out.heap b))).mono ?_
          rintro e z3 ⟨rfl, hz3⟩
          have Z3 := Lib.hid (HG.out.trans ((Z2.out.trans hz3).below _))
          clear hz3
          go_wp2
          go_ret
          exact ⟨rfl, Z3.out⟩
    · have E1 : backRes l i = ([], errOf l [i]) := if_neg he
      have E2 : onRes l i = ([], errOf l [i]) := if_neg he
      have E4 := errOf_more (j := j) he
      have E3 : chopRes l i j = ([], errOf l [i]) := by rw [chopRes, E4, if_neg he]
      rw [E1, E2, E3, E4]
      clear K1 K2 K3 E1 E2 E3 E4 h0 HL HM
      generalize errOf l [i] = E at *
      have hE : (E == 0) = false := by simpa using he
      have hEE : (E == E) = true := by simp
      clear he
      go_wp2_with fail
      go_loopw [15, 16, 17, 18] (fun b o c n w' => b = .slice none 0 0 ∧ o = .slice none 0 0 ∧ c = .slice none 0 0 ∧ n = .int .i64 0 ∧ Quiet w7 w') (fun _ _ _ n _ => 0)
      case atStart => exact ⟨rfl, rfl, rfl, rfl, Quiet.refl _⟩
      case round =>
        obtain ⟨rfl, rfl, rfl, rfl, hq⟩ := hrel
        have Q := Lib.hid hq
        clear hq
        have sm : ∀ (w : World) (a1 a2 : Option Addr) (c1 c2 : Nat), Calls Try.prog 17 #[.slice a1 0 c1, .slice a2 0 c2] w fun e w' => e = .returned (.bool true) ∧ Quiet w w' := fun w a1 a2 c1 c2 => same_ints_refl (xs := []) (Arr.nil (fun _ => True) w a1) (Arr.nil (fun _ => True) w a2)
        have SM := Lib.hid sm
        clear sm
        go_wp2_with fail
        all_goals
          refine (SM.out _ _ _ _ _).mono ?_
          rintro e z1 ⟨rfl, hz1⟩
          have Z1 := Lib.hid (Q.out.trans hz1)
          clear hz1
          go_wp2_with fail
          refine (SM.out _ _ _ _ _).mono ?_
          rintro e z2 ⟨rfl, hz2⟩
          have Z2 := Lib.hid (Z1.out.trans hz2)
          clear hz2
          go_wp2_with fail
          refine (SM.out _ _ _ _ _).mono ?_
          rintro e z3 ⟨rfl, hz3⟩
          have Z3 := Lib.hid (H7.out.trans ((Z2.out.trans hz3).below _))
          clear hz3
          go_wp2
          go_ret
          exact ⟨rfl, Z3.out⟩
  · have hle : decide ((l.length : Int) ≤ 200) = true := by simp; omega
    have h0 := h0.take 40
    have HL : Hid (200 < (l.take 40).length ∨ (l.take 40).length ≤ 40) := by right; simp; omega
    have HM : Hid ((l.take 40).length = 40) := by show _ = _; simp; omega
    have hc40 : (40 : Int) ≤ c := by omega
    have hmin : ¬ (l.length : Int) ≤ 40 := by omega
    clear hl2
    go_enter Try.func10, Try.ntmps10
    go_wp2_with fail
    clear hl1 hle hc hmin hm
    generalize l.take 40 = L at *
    refine (bback_at h0 (fun _ h => h) hi HM.out).mono ?_
    rintro e w1 ⟨⟨a1, c1, rfl, k1, -⟩, hb1⟩
    have H1 := Lib.hid hb1; have K1 := Lib.hid k1
    have h1 := h0.keep (w' := w1) (keep_of_below hb1)
    clear k1 hb1
    go_wp2_with fail
    refine (oon_at h1 (fun b hb => Nat.lt_of_lt_of_le hb H1.out.size) hi HM.out).mono ?_
    rintro e w2 ⟨⟨a2, c2, rfl, k2, -⟩, hb2⟩
    have H2 := Lib.hid (mild_grow.trans H1.out hb2); have K1 := Lib.hid (K1.out.later hb2); have K2 := Lib.hid k2
    have h2 := h0.keep (w' := w2) (keep_of_below H2.out)
    have hs12 := hb2.size
    clear k2 hb2 h1 H1
    go_wp2_with fail
    refine (chop_at h2 (fun b hb => Nat.lt_of_lt_of_le hb H2.out.size) hi hj HM.out).mono ?_
    rintro e w3 ⟨⟨a3, c3, rfl, k3, -⟩, hb3⟩
    have H3 := Lib.hid (mild_grow.trans H2.out hb3); have K1 := Lib.hid (K1.out.still (fun b hb => Nat.lt_of_lt_of_le hb.2 hs12) hb3); have K2 := Lib.hid (K2.out.later hb3); have K3 := Lib.hid k3
    have hs23 := hb3.size
    clear k3 hb3 h2 H2
    go_wp2_with fail
    refine cut_calls (fun wz => Grow w3 wz ∧ Arr (fun _ => True) wz (some ⟨w3.heap.size, 0, none⟩) [i]) ?_ ?_
    · exact ⟨(Below.refl _ _).alloc (Nat.le_refl _) _, Blk.arr (zs := [i]) (blk_new w3 [.int .i64 i] _) (by simpa using hi) (by simp [maxLen]) trivial⟩
    rintro w4 ⟨hb4, hp4⟩
    have H4 := Lib.hid (mild_grow.trans H3.out hb4); have G4 := Lib.hid hb4
    refine (rerr_at (h0.keep (w' := w4) (keep_of_below H4.out)) hp4 HM.out rfl).mono ?_
    rintro e w5 ⟨rfl, hq5⟩
    have G5 := Lib.hid (mild_grow.trans G4.out (hq5.below _)); have H5 := Lib.hid (mild_grow.trans H3.out G5.out)
    clear hb4 hp4 H4 G4 hq5
    go_wp2_with fail
    refine cut_calls (fun wz => Grow w5 wz ∧ Arr (fun _ => True) wz (some ⟨w5.heap.size, 0, none⟩) [i, j]) ?_ ?_
    · exact ⟨(Below.refl _ _).alloc (Nat.le_refl _) _, Blk.arr (zs := [i, j]) (blk_new w5 [.int .i64 i, .int .i64 j] _) (by simpa using ⟨hi, hj⟩) (by simp [maxLen]) trivial⟩
    rintro w6 ⟨hb6, hp6⟩
    have H6 := Lib.hid (mild_grow.trans H5.out hb6); have G6 := Lib.hid (mild_grow.trans G5.out hb6)
    refine (rerr_at (h0.keep (w' := w6) (keep_of_below H6.out)) hp6 HM.out rfl).mono ?_
    rintro e w7 ⟨rfl, hq7⟩
    have G7 := Lib.hid (mild_grow.trans G6.out (hq7.below _)); have H7 := Lib.hid (mild_grow.trans H3.out G7.out)
    have K1 := Lib.hid (K1.out.still (fun b hb => Nat.lt_of_lt_of_le hb.2 (Nat.le_trans hs12 hs23)) G7.out)
    have K2 := Lib.hid (K2.out.still (fun b hb => Nat.lt_of_lt_of_le hb.2 hs23) G7.out)
    have K3 := Lib.hid (K3.out.later G7.out)
    have hs17 : w1.heap.size ≤ w7.heap.size := Nat.le_trans hs12 (Nat.le_trans hs23 G7.out.size)
    have hs27 : w2.heap.size ≤ w7.heap.size := Nat.le_trans hs23 G7.out.size
    have hs37 := G7.out.size
    clear hb6 hp6 H6 G6 hq7 H5 G5 H3 G7
    by_cases he : errOf L [i] = 0
    · obtain ⟨hl200, hv, ha⟩ := errOf_zero he
      obtain ⟨k, rfl, hk⟩ := err_place ha
      have HV := Lib.hid hv
      have hkm : k < 40 := by rw [← HM.out]; exact hk
      have hm40 : 40 ≤ 40 := by have := HL.out; have := HM.out; omega
      have HKL := Lib.hid hk; have HL2 := Lib.hid hl200
      have E1 := backRes_ok he; have E2 := onRes_ok he
      rw [HM.out] at E1 E2
      rw [E1] at K1; rw [E2] at K2; rw [E1, E2, he]
      clear ha hv hk he E1 E2 hl200 hi
      obtain ⟨ok, q2, hok⟩ : ∃ (ok : Bool) (jn : Nat), (ok = true → j = jn ∧ jn < 40 ∧ errOf L [(k : Int), j] = 0 ∧ chopRes L k j = (chopAt L k jn ok 40, 0)) ∧ (ok = false → errOf L [(k : Int), j] ≠ 0 ∧ chopRes L k j = (chopAt L k jn ok 40, errOf L [(k : Int), j])) := by
        by_cases h2 : errOf L [(k : Int), j] = 0
        · obtain ⟨-, -, ha⟩ := errOf_zero h2
          obtain ⟨-, ⟨jn, rfl, hjn⟩⟩ := err_places ha
          refine ⟨true, jn, fun _ => ⟨rfl, by rw [← HM.out]; exact hjn, h2, ?_⟩, (fun h => by cases h)⟩
          rw [chopRes_ok h2, HM.out]; rfl
        · exact ⟨false, 0, (fun h => by cases h), fun _ => ⟨h2, by rw [chopRes, if_neg h2]; rfl⟩⟩
      have hcr : chopRes L k j = (chopAt L k q2 ok 40, errOf L [(k : Int), j]) := by
        cases ok with
        | true => rw [(hok.1 rfl).2.2.1]; exact (hok.1 rfl).2.2.2
        | false => exact (hok.2 rfl).2
      rw [hcr] at K3; rw [hcr]
      have hvok : (errOf L [(k : Int), j] == 0) = ok := by
        cases ok with
        | true => simp [(hok.1 rfl).2.2.1]
        | false => simpa using (hok.2 rfl).1
      have HJ : Hid (ok = true → j = q2 ∧ q2 < 40) := fun h => ⟨(hok.1 h).1, (hok.1 h).2.1⟩
      generalize errOf L [(k : Int), j] = V at *
      clear hok hcr
      go_wp2_with fail
      go_loopw [15, 16, 17, 18] (lawRel w7 w7.heap.size 40 L k q2 ok) (fun _ _ _ n _ => 40 - (intOf n).toNat)
      case atStart => exact ⟨0, Nat.zero_le _, rfl, Own.nil _ _ _ _, Own.nil _ _ _ _, by cases ok <;> exact Own.nil _ _ _ _, Apart.nil_left _ _ _, Apart.nil_left _ _ _, Apart.nil_left _ _ _, Below.refl _ _⟩
      case round =>
        obtain ⟨q, hq, rfl, o1, o2, o3, p1, p2, p3, hg⟩ := hrel
        have O1 := Lib.hid o1; have O2 := Lib.hid o2; have O3 := Lib.hid o3; have P1 := Lib.hid p1; have P2 := Lib.hid p2; have P3 := Lib.hid p3; have G := Lib.hid hg
        clear o1 o2 o3 p1 p2 p3 hg
        by_cases hlt : q < 40
        · have HKQ : Hid (q < L.length) := by show q < _; rw [HM.out]; exact hlt
          have hcell : ∀ w : World, Rep.cells (fun _ => False) w [.int .i64 (q : Int)] (q : Int) := fun w => cells_int (by unfold I64; omega)
          have hl1 := filt_len (fun n => hangs L k n) q
          have hl2 := filt_len (fun n => hangs L n k) q
          have hl3 := chopAt_len L k q2 ok q
          have F1 := Lib.hid (filt_succ (fun n => hangs L k n) q); have F2 := Lib.hid (filt_succ (fun n => hangs L n k) q); have F3 := Lib.hid (chopAt_succ L k q2 ok q)
          generalize filt (fun n => hangs L k n) q = X1 at *
          generalize filt (fun n => hangs L n k) q = X2 at *
          generalize chopAt L k q2 ok q = X3 at *
          have HA : Hid (∀ w', Grow w7 w' → Arr (fun x => x < W.heap.size) w' a L) := fun w' hw => h0.keep (keep_of_below (mild_grow.trans H7.out hw))
          have HSZ : Hid (∀ w', Grow w7 w' → ∀ b, b < W.heap.size → b < w'.heap.size) := fun w' hw b hb => Nat.lt_of_lt_of_le hb (mild_grow.trans H7.out hw).size
          have hok2 := hvok
          cases ok
          case' false =>
            have hV : ¬ V = 0 := by simpa using hvok
            go_wp2_with fail
            refine (rhangs_at (HA.out _ G.out) (HSZ.out _ G.out) HV.out HKL.out HKQ.out HL2.out HM.out).mono ?_
            rintro e w8 ⟨rfl, hb8⟩
            have O1 := Lib.hid (O1.out.below hb8 (fun _ h => h.elim)); have O2 := Lib.hid (O2.out.below hb8 (fun _ h => h.elim)); have O3 := Lib.hid (O3.out.below hb8 (fun _ h => h.elim)); have G := Lib.hid (mild_grow.trans G.out hb8)
            clear hb8
            have hbase := G.out.size
            generalize hangs L k q = b1 at *
            cases b1
            case' true =>
              have F1 : Hid (filt (fun n => hangs L k n) (q + 1) = X1 ++ [(q : Int)]) := by show _ = _; rw [F1.out]; simp
              go_wp2_with (at_builtin; with_reducible refine Try.wp_appd22 rfl rfl rfl rfl rfl (by first | rfl | simp) (O1.out) (hcell _) (fun _ h => h.elim) (by omega) (by first | omega | (simp; omega)) fun v' w' hown' hg' hst' => ?_)
              have TO2 : ∀ k, u16.ownBlock = some k → k < w8.heap.size := fun k hk => (O2.out.lt k hk).2
              have O2 := Lib.hid (O2.out.apart hg' P1.out (fun _ h => h.elim))
              have P1 := Lib.hid ((P1.out.moved hst' TO2))
              have TO3 : ∀ k, u17.ownBlock = some k → k < w8.heap.size := fun k hk => (O3.out.lt k hk).2
              have O3 := Lib.hid (O3.out.apart hg' P2.out (fun _ h => h.elim))
              have P2 := Lib.hid ((P2.out.moved hst' TO3))
              have G := Lib.hid (G.out.grown hg' hbase (fun k hk => (O1.out.lt k hk).1))
              have O1 := Lib.hid hown'
              clear hown' hg' hst' TO2 TO3
              obtain ⟨w8, rfl⟩ : ∃ x : World, x = w' := ⟨_, rfl⟩
              obtain ⟨u15, rfl⟩ : ∃ x : Value, x = v' := ⟨_, rfl⟩
            case' false =>
              have F1 : Hid (filt (fun n => hangs L k n) (q + 1) = X1) := by show _ = _; rw [F1.out]; simp
              go_wp2_with fail
            all_goals
              refine (rhangs_at (HA.out _ G.out) (HSZ.out _ G.out) HV.out HKQ.out HKL.out HL2.out HM.out).mono ?_
              rintro e w9 ⟨rfl, hb8⟩
              have O1 := Lib.hid (O1.out.below hb8 (fun _ h => h.elim)); have O2 := Lib.hid (O2.out.below hb8 (fun _ h => h.elim)); have O3 := Lib.hid (O3.out.below hb8 (fun _ h => h.elim)); have G := Lib.hid (mild_grow.trans G.out hb8)
              clear hb8
              have hbase := G.out.size
              obtain ⟨w8, rfl⟩ : ∃ x : World, x = w9 := ⟨_, rfl⟩
              obtain ⟨b2, hb2⟩ : ∃ b2, b2 = hangs L q k := ⟨_, rfl⟩
              rw [← hb2] at F2 F3 ⊢
              have HB2 := Lib.hid hb2
              clear hb2
              cases b2
              case' true =>
                have F2 : Hid (filt (fun n => hangs L n k) (q + 1) = X2 ++ [(q : Int)]) := by show _ = _; rw [F2.out]; simp
                go_wp2_with (at_builtin; with_reducible refine Try.wp_appd22 rfl rfl rfl rfl rfl (by first | rfl | simp) (O2.out) (hcell _) (fun _ h => h.elim) (by omega) (by first | omega | (simp; omega)) fun v' w' hown' hg' hst' => ?_)
                have TO1 : ∀ k, u15.ownBlock = some k → k < w8.heap.size := fun k hk => (O1.out.lt k hk).2
                have O1 := Lib.hid (O1.out.apart hg' P1.out.symm (fun _ h => h.elim))
                have P1 := Lib.hid ((P1.out.symm.moved hst' TO1).symm)
                have TO3 : ∀ k, u17.ownBlock = some k → k < w8.heap.size := fun k hk => (O3.out.lt k hk).2
                have O3 := Lib.hid (O3.out.apart hg' P3.out (fun _ h => h.elim))
                have P3 := Lib.hid ((P3.out.moved hst' TO3))
                have G := Lib.hid (G.out.grown hg' hbase (fun k hk => (O2.out.lt k hk).1))
                have O2 := Lib.hid hown'
                clear hown' hg' hst' TO1 TO3
                obtain ⟨w8, rfl⟩ : ∃ x : World, x = w' := ⟨_, rfl⟩
                obtain ⟨u16, rfl⟩ : ∃ x : Value, x = v' := ⟨_, rfl⟩
              case' false =>
                have F2 : Hid (filt (fun n => hangs L n k) (q + 1) = X2) := by show _ = _; rw [F2.out]; simp
                go_wp2_with fail
              all_goals
                have F3 : Hid (chopAt L k q2 false (q + 1) = X3) := by show _ = _; rw [F3.out]; simp
                go_roundw
                case rel => exact ⟨q + 1, by omega, by go_num, by rw [F1.out]; exact O1.out, by rw [F2.out]; exact O2.out, by rw [F3.out]; exact O3.out, P1.out, P2.out, P3.out, G.out⟩
                case measure => simp [intOf] <;> omega
          case' true =>
            obtain rfl : V = 0 := by simpa using hvok
            obtain ⟨hj2, hqm⟩ := HJ.out rfl
            subst hj2
            go_wp2_with fail
            refine (rhangs_at (HA.out _ G.out) (HSZ.out _ G.out) HV.out HKL.out HKQ.out HL2.out HM.out).mono ?_
            rintro e w8 ⟨rfl, hb8⟩
            have O1 := Lib.hid (O1.out.below hb8 (fun _ h => h.elim)); have O2 := Lib.hid (O2.out.below hb8 (fun _ h => h.elim)); have O3 := Lib.hid (O3.out.below hb8 (fun _ h => h.elim)); have G := Lib.hid (mild_grow.trans G.out hb8)
            clear hb8
            have hbase := G.out.size
            generalize hangs L k q = b1 at *
            cases b1
            case' true =>
              have F1 : Hid (filt (fun n => hangs L k n) (q + 1) = X1 ++ [(q : Int)]) := by show _ = _; rw [F1.out]; simp
              go_wp2_with (at_builtin; with_reducible refine Try.wp_appd22 rfl rfl rfl rfl rfl (by first | rfl | simp) (O1.out) (hcell _) (fun _ h => h.elim) (by omega) (by first | omega | (simp; omega)) fun v' w' hown' hg' hst' => ?_)
              have TO2 : ∀ k, u16.ownBlock = some k → k < w8.heap.size := fun k hk => (O2.out.lt k hk).2
              have O2 := Lib.hid (O2.out.apart hg' P1.out (fun _ h => h.elim))
              have P1 := Lib.hid ((P1.out.moved hst' TO2))
              have TO3 : ∀ k, u17.ownBlock = some k → k < w8.heap.size := fun k hk => (O3.out.lt k hk).2
              have O3 := Lib.hid (O3.out.apart hg' P2.out (fun _ h => h.elim))
              have P2 := Lib.hid ((P2.out.moved hst' TO3))
              have G := Lib.hid (G.out.grown hg' hbase (fun k hk => (O1.out.lt k hk).1))
              have O1 := Lib.hid hown'
              clear hown' hg' hst' TO2 TO3
              obtain ⟨w8, rfl⟩ : ∃ x : World, x = w' := ⟨_, rfl⟩
              obtain ⟨u15, rfl⟩ : ∃ x : Value, x = v' := ⟨_, rfl⟩
            case' false =>
              have F1 : Hid (filt (fun n => hangs L k n) (q + 1) = X1) := by show _ = _; rw [F1.out]; simp
              go_wp2_with fail
            all_goals
              refine (rhangs_at (HA.out _ G.out) (HSZ.out _ G.out) HV.out HKQ.out HKL.out HL2.out HM.out).mono ?_
              rintro e w9 ⟨rfl, hb8⟩
              have O1 := Lib.hid (O1.out.below hb8 (fun _ h => h.elim)); have O2 := Lib.hid (O2.out.below hb8 (fun _ h => h.elim)); have O3 := Lib.hid (O3.out.below hb8 (fun _ h => h.elim)); have G := Lib.hid (mild_grow.trans G.out hb8)
              clear hb8
              have hbase := G.out.size
              obtain ⟨w8, rfl⟩ : ∃ x : World, x = w9 := ⟨_, rfl⟩
              obtain ⟨b2, hb2⟩ : ∃ b2, b2 = hangs L q k := ⟨_, rfl⟩
              rw [← hb2] at F2 F3 ⊢
              have HB2 := Lib.hid hb2
              clear hb2
              cases b2
              case' true =>
                have F2 : Hid (filt (fun n => hangs L n k) (q + 1) = X2 ++ [(q : Int)]) := by show _ = _; rw [F2.out]; simp
                go_wp2_with (at_builtin; with_reducible refine Try.wp_appd22 rfl rfl rfl rfl rfl (by first | rfl | simp) (O2.out) (hcell _) (fun _ h => h.elim) (by omega) (by first | omega | (simp; omega)) fun v' w' hown' hg' hst' => ?_)
                have TO1 : ∀ k, u15.ownBlock = some k → k < w8.heap.size := fun k hk => (O1.out.lt k hk).2
                have O1 := Lib.hid (O1.out.apart hg' P1.out.symm (fun _ h => h.elim))
                have P1 := Lib.hid ((P1.out.symm.moved hst' TO1).symm)
                have TO3 : ∀ k, u17.ownBlock = some k → k < w8.heap.size := fun k hk => (O3.out.lt k hk).2
                have O3 := Lib.hid (O3.out.apart hg' P3.out (fun _ h => h.elim))
                have P3 := Lib.hid ((P3.out.moved hst' TO3))
                have G := Lib.hid (G.out.grown hg' hbase (fun k hk => (O2.out.lt k hk).1))
                have O2 := Lib.hid hown'
                clear hown' hg' hst' TO1 TO3
                obtain ⟨w8, rfl⟩ : ∃ x : World, x = w' := ⟨_, rfl⟩
                obtain ⟨u16, rfl⟩ : ∃ x : Value, x = v' := ⟨_, rfl⟩
              case' false =>
                have F2 : Hid (filt (fun n => hangs L n k) (q + 1) = X2) := by show _ = _; rw [F2.out]; simp
                go_wp2_with fail
              all_goals
                rw [Bool.true_and] at F3
                refine (rhangs_at (HA.out _ G.out) (HSZ.out _ G.out) HV.out HKQ.out HKL.out HL2.out HM.out).mono ?_
                rintro e w9 ⟨rfl, hb8⟩
                have O1 := Lib.hid (O1.out.below hb8 (fun _ h => h.elim)); have O2 := Lib.hid (O2.out.below hb8 (fun _ h => h.elim)); have O3 := Lib.hid (O3.out.below hb8 (fun _ h => h.elim)); have G := Lib.hid (mild_grow.trans G.out hb8)
                clear hb8
                have hbase := G.out.size
                obtain ⟨w8, rfl⟩ : ∃ x : World, x = w9 := ⟨_, rfl⟩
                rw [← HB2.out]
                clear HB2
                have hq2l : q2 < L.length := by rw [HM.out]; exact hqm
                first
                | (have F3 : Hid (chopAt L k q2 true (q + 1) = X3) := by show _ = _; rw [F3.out]; simp
                   go_wp2_with fail
                   go_roundw
                   case rel => exact ⟨q + 1, by omega, by go_num, by rw [F1.out]; exact O1.out, by rw [F2.out]; exact O2.out, by rw [F3.out]; exact O3.out, P1.out, P2.out, P3.out, G.out⟩
                   case measure => simp [intOf] <;> omega)
                | (rw [Bool.true_and] at F3
                   go_wp2_with fail
                   refine (rhangs_at (HA.out _ G.out) (HSZ.out _ G.out) HV.out hq2l HKQ.out HL2.out HM.out).mono ?_
                   rintro e w9 ⟨rfl, hb8⟩
                   have O1 := Lib.hid (O1.out.below hb8 (fun _ h => h.elim)); have O2 := Lib.hid (O2.out.below hb8 (fun _ h => h.elim)); have O3 := Lib.hid (O3.out.below hb8 (fun _ h => h.elim)); have G := Lib.hid (mild_grow.trans G.out hb8)
                   clear hb8
                   have hbase := G.out.size
                   generalize hangs L q2 q = b3 at *
                   cases b3
                   case false =>
                     have F3 : Hid (chopAt L k q2 true (q + 1) = X3) := by show _ = _; rw [F3.out]; simp
                     go_wp2_with fail
                     go_roundw
                     case rel => exact ⟨q + 1, by omega, by go_num, by rw [F1.out]; exact O1.out, by rw [F2.out]; exact O2.out, by rw [F3.out]; exact O3.out, P1.out, P2.out, P3.out, G.out⟩
                     case measure => simp [intOf] <;> omega
                   case true =>
                     have F3 : Hid (chopAt L k q2 true (q + 1) = X3 ++ [(q : Int)]) := by show _ = _; rw [F3.out]; simp
                     go_wp2_with (at_builtin; with_reducible refine Try.wp_appd22 rfl rfl rfl rfl rfl (by first | rfl | simp) (O3.out) (hcell _) (fun _ h => h.elim) (by omega) (by first | omega | (simp; omega)) fun v' w' hown' hg' hst' => ?_)
                     have TO1 : ∀ k, u15.ownBlock = some k → k < w9.heap.size := fun k hk => (O1.out.lt k hk).2
                     have TO2 : ∀ k, u16.ownBlock = some k → k < w9.heap.size := fun k hk => (O2.out.lt k hk).2
                     have O1 := Lib.hid (O1.out.apart hg' P2.out.symm (fun _ h => h.elim)); have O2 := Lib.hid (O2.out.apart hg' P3.out.symm (fun _ h => h.elim))
                     have P2 := Lib.hid ((P2.out.symm.moved hst' TO1).symm); have P3 := Lib.hid ((P3.out.symm.moved hst' TO2).symm)
                     have G := Lib.hid (G.out.grown hg' hbase (fun k hk => (O3.out.lt k hk).1))
                     have O3 := Lib.hid hown'
                     clear hown' hg' hst' TO1 TO2
                     go_roundw
                     case rel => exact ⟨q + 1, by omega, by go_num, by rw [F1.out]; exact O1.out, by rw [F2.out]; exact O2.out, by rw [F3.out]; exact O3.out, P1.out, P2.out, P3.out, G.out⟩
                     case measure => simp [intOf] <;> omega)
        · obtain rfl : q = 40 := by omega
          obtain ⟨b1, d1, rfl, -, -, x1⟩ := own_fresh O1.out
          obtain ⟨b2, d2, rfl, -, -, x2⟩ := own_fresh O2.out
          obtain ⟨b3, d3, rfl, -, -, x3⟩ := own_fresh O3.out
          have X1 := Lib.hid x1; have X2 := Lib.hid x2; have X3 := Lib.hid x3
          have Y1 := Lib.hid (K1.out.keep (w' := wr) (fun b hb => G.out.block b (Nat.lt_of_lt_of_le hb.2 hs17))); have Y2 := Lib.hid (K2.out.keep (w' := wr) (fun b hb => G.out.block b (Nat.lt_of_lt_of_le hb.2 hs27))); have Y3 := Lib.hid (K3.out.keep (w' := wr) (fun b hb => G.out.block b (Nat.lt_of_lt_of_le hb.2 hs37)))
          have HG := Lib.hid (mild_grow.trans H7.out G.out)
          have hvv : (V == V) = true := by simp
          clear x1 x2 x3 K1 K2 K3 O1 O2 O3 hvok HJ h0
          go_wp2_with fail
          refine (same_ints_refl Y1.out X1.out).mono ?_
          rintro e z1 ⟨rfl, hz1⟩
          have Z1 := Lib.hid hz1
          clear hz1
          go_wp2_with fail
          refine (same_ints_refl (Y2.out.keep (fun b _ => Z1.out.heap b)) (X2.out.keep (fun b _ => Z1.out.heap b))).mono ?_
          rintro e z2 ⟨rfl, hz2⟩
          have Z2 := Lib.hid (Z1.out.trans hz2)
          clear hz2
          go_wp2_with fail
          refine (same_ints_refl (Y3.out.keep (fun b _ => Z2.out.heap b)) (X3.out.keep (fun b _ => Z2.out.heap b))).mono ?_
          rintro e z3 ⟨rfl, hz3⟩
          have Z3 := Lib.hid (HG.out.trans ((Z2.out.trans hz3).below _))
          clear hz3
          go_wp2
          go_ret
          exact ⟨rfl, Z3.out⟩
    · have E1 : backRes L i = ([], errOf L [i]) := if_neg he
      have E2 : onRes L i = ([], errOf L [i]) := if_neg he
      have E4 := errOf_more (j := j) he
      have E3 : chopRes L i j = ([], errOf L [i]) := by rw [chopRes, E4, if_neg he]
      rw [E1, E2, E3, E4]
      clear K1 K2 K3 E1 E2 E3 E4 h0 HL HM
      generalize errOf L [i] = E at *
      have hE : (E == 0) = false := by simpa using he
      have hEE : (E == E) = true := by simp
      clear he
      go_wp2_with fail
      go_loopw [15, 16, 17, 18] (fun b o c n w' => b = .slice none 0 0 ∧ o = .slice none 0 0 ∧ c = .slice none 0 0 ∧ n = .int .i64 0 ∧ Quiet w7 w') (fun _ _ _ n _ => 0)
      case atStart => exact ⟨rfl, rfl, rfl, rfl, Quiet.refl _⟩
      case round =>
        obtain ⟨rfl, rfl, rfl, rfl, hq⟩ := hrel
        have Q := Lib.hid hq
        clear hq
        have sm : ∀ (w : World) (a1 a2 : Option Addr) (c1 c2 : Nat), Calls Try.prog 17 #[.slice a1 0 c1, .slice a2 0 c2] w fun e w' => e = .returned (.bool true) ∧ Quiet w w' := fun w a1 a2 c1 c2 => same_ints_refl (xs := []) (Arr.nil (fun _ => True) w a1) (Arr.nil (fun _ => True) w a2)
        have SM := Lib.hid sm
        clear sm
        go_wp2_with fail
        all_goals
          refine (SM.out _ _ _ _ _).mono ?_
          rintro e z1 ⟨rfl, hz1⟩
          have Z1 := Lib.hid (Q.out.trans hz1)
          clear hz1
          go_wp2_with fail
          refine (SM.out _ _ _ _ _).mono ?_
          rintro e z2 ⟨rfl, hz2⟩
          have Z2 := Lib.hid (Z1.out.trans hz2)
          clear hz2
          go_wp2_with fail
          refine (SM.out _ _ _ _ _).mono ?_
          rintro e z3 ⟨rfl, hz3⟩
          have Z3 := Lib.hid (H7.out.trans ((Z2.out.trans hz3).below _))
          clear hz3
          go_wp2
          go_ret
          exact ⟨rfl, Z3.out⟩
  · have hle : decide ((l.length : Int) ≤ 200) = true := by simp; omega
    have HL : Hid (200 < l.length ∨ l.length ≤ 40) := .inr hl
    obtain ⟨m, hml⟩ : ∃ m, l.length = m := ⟨_, rfl⟩
    have hli : (l.length : Int) ≤ 40 := by omega
    rw [hml] at hle hm hli hc ⊢
    have HM := Lib.hid hml
    clear hl hml
    go_enter Try.func10, Try.ntmps10
    go_wp2_with fail
    clear hc
    refine (bback_at h0 (fun _ h => h) hi HM.out).mono ?_
    rintro e w1 ⟨⟨a1, c1, rfl, k1, -⟩, hb1⟩
    have H1 := Lib.hid hb1; have K1 := Lib.hid k1
    have h1 := h0.keep (w' := w1) (keep_of_below hb1)
    clear k1 hb1
    go_wp2_with fail
    refine (oon_at h1 (fun b hb => Nat.lt_of_lt_of_le hb H1.out.size) hi HM.out).mono ?_
    rintro e w2 ⟨⟨a2, c2, rfl, k2, -⟩, hb2⟩
    have H2 := Lib.hid (mild_grow.trans H1.out hb2); have K1 := Lib.hid (K1.out.later hb2); have K2 := Lib.hid k2
    have h2 := h0.keep (w' := w2) (keep_of_below H2.out)
    have hs12 := hb2.size
    clear k2 hb2 h1 H1
    go_wp2_with fail
    refine (chop_at h2 (fun b hb => Nat.lt_of_lt_of_le hb H2.out.size) hi hj HM.out).mono ?_
    rintro e w3 ⟨⟨a3, c3, rfl, k3, -⟩, hb3⟩
    have H3 := Lib.hid (mild_grow.trans H2.out hb3); have K1 := Lib.hid (K1.out.still (fun b hb => Nat.lt_of_lt_of_le hb.2 hs12) hb3); have K2 := Lib.hid (K2.out.later hb3); have K3 := Lib.hid k3
    have hs23 := hb3.size
    clear k3 hb3 h2 H2
    go_wp2_with fail
    refine cut_calls (fun wz => Grow w3 wz ∧ Arr (fun _ => True) wz (some ⟨w3.heap.size, 0, none⟩) [i]) ?_ ?_
    · exact ⟨(Below.refl _ _).alloc (Nat.le_refl _) _, Blk.arr (zs := [i]) (blk_new w3 [.int .i64 i] _) (by simpa using hi) (by simp [maxLen]) trivial⟩
    rintro w4 ⟨hb4, hp4⟩
    have H4 := Lib.hid (mild_grow.trans H3.out hb4); have G4 := Lib.hid hb4
    refine (rerr_at (h0.keep (w' := w4) (keep_of_below H4.out)) hp4 HM.out rfl).mono ?_
    rintro e w5 ⟨rfl, hq5⟩
    have G5 := Lib.hid (mild_grow.trans G4.out (hq5.below _)); have H5 := Lib.hid (mild_grow.trans H3.out G5.out)
    clear hb4 hp4 H4 G4 hq5
    go_wp2_with fail
    refine cut_calls (fun wz => Grow w5 wz ∧ Arr (fun _ => True) wz (some ⟨w5.heap.size, 0, none⟩) [i, j]) ?_ ?_
    · exact ⟨(Below.refl _ _).alloc (Nat.le_refl _) _, Blk.arr (zs := [i, j]) (blk_new w5 [.int .i64 i, .int .i64 j] _) (by simpa using ⟨hi, hj⟩) (by simp [maxLen]) trivial⟩
    rintro w6 ⟨hb6, hp6⟩
    have H6 := Lib.hid (mild_grow.trans H5.out hb6); have G6 := Lib.hid (mild_grow.trans G5.out hb6)
    refine (rerr_at (h0.keep (w' := w6) (keep_of_below H6.out)) hp6 HM.out rfl).mono ?_
    rintro e w7 ⟨rfl, hq7⟩
    have G7 := Lib.hid (mild_grow.trans G6.out (hq7.below _)); have H7 := Lib.hid (mild_grow.trans H3.out G7.out)
    have K1 := Lib.hid (K1.out.still (fun b hb => Nat.lt_of_lt_of_le hb.2 (Nat.le_trans hs12 hs23)) G7.out)
    have K2 := Lib.hid (K2.out.still (fun b hb => Nat.lt_of_lt_of_le hb.2 hs23) G7.out)
    have K3 := Lib.hid (K3.out.later G7.out)
    have hs17 : w1.heap.size ≤ w7.heap.size := Nat.le_trans hs12 (Nat.le_trans hs23 G7.out.size)
    have hs27 : w2.heap.size ≤ w7.heap.size := Nat.le_trans hs23 G7.out.size
    have hs37 := G7.out.size
    clear hb6 hp6 H6 G6 hq7 H5 G5 H3 G7
    by_cases he : errOf l [i] = 0
    · obtain ⟨hl200, hv, ha⟩ := errOf_zero he
      obtain ⟨k, rfl, hk⟩ := err_place ha
      have HV := Lib.hid hv
      have hkm : k < m := by rw [← HM.out]; exact hk
      have hm40 : m ≤ 40 := by have := HL.out; have := HM.out; omega
      have HKL := Lib.hid hk; have HL2 := Lib.hid hl200
      have E1 := backRes_ok he; have E2 := onRes_ok he
      rw [HM.out] at E1 E2
      rw [E1] at K1; rw [E2] at K2; rw [E1, E2, he]
      clear ha hv hk he E1 E2 hl200 hi
      obtain ⟨ok, q2, hok⟩ : ∃ (ok : Bool) (jn : Nat), (ok = true → j = jn ∧ jn < m ∧ errOf l [(k : Int), j] = 0 ∧ chopRes l k j = (chopAt l k jn ok m, 0)) ∧ (ok = false → errOf l [(k : Int), j] ≠ 0 ∧ chopRes l k j = (chopAt l k jn ok m, errOf l [(k : Int), j])) := by
        by_cases h2 : errOf l [(k : Int), j] = 0
        · obtain ⟨-, -, ha⟩ := errOf_zero h2
          obtain ⟨-, ⟨jn, rfl, hjn⟩⟩ := err_places ha
          refine ⟨true, jn, fun _ => ⟨rfl, by rw [← HM.out]; exact hjn, h2, ?_⟩, (fun h => by cases h)⟩
          rw [chopRes_ok h2, HM.out]; rfl
        · exact ⟨false, 0, (fun h => by cases h), fun _ => ⟨h2, by rw [chopRes, if_neg h2]; rfl⟩⟩
      have hcr : chopRes l k j = (chopAt l k q2 ok m, errOf l [(k : Int), j]) := by
        cases ok with
        | true => rw [(hok.1 rfl).2.2.1]; exact (hok.1 rfl).2.2.2
        | false => exact (hok.2 rfl).2
      rw [hcr] at K3; rw [hcr]
      have hvok : (errOf l [(k : Int), j] == 0) = ok := by
        cases ok with
        | true => simp [(hok.1 rfl).2.2.1]
        | false => simpa using (hok.2 rfl).1
      have HJ : Hid (ok = true → j = q2 ∧ q2 < m) := fun h => ⟨(hok.1 h).1, (hok.1 h).2.1⟩
      generalize errOf l [(k : Int), j] = V at *
      clear hok hcr
      go_wp2_with fail
      go_loopw [15, 16, 17, 18] (lawRel w7 w7.heap.size m l k q2 ok) (fun _ _ _ n _ => m - (intOf n).toNat)
      case atStart => exact ⟨0, Nat.zero_le _, rfl, Own.nil _ _ _ _, Own.nil _ _ _ _, by cases ok <;> exact Own.nil _ _ _ _, Apart.nil_left _ _ _, Apart.nil_left _ _ _, Apart.nil_left _ _ _, Below.refl _ _⟩
      case round =>
        obtain ⟨q, hq, rfl, o1, o2, o3, p1, p2, p3, hg⟩ := hrel
        have O1 := Lib.hid o1; have O2 := Lib.hid o2; have O3 := Lib.hid o3; have P1 := Lib.hid p1; have P2 := Lib.hid p2; have P3 := Lib.hid p3; have G := Lib.hid hg
        clear o1 o2 o3 p1 p2 p3 hg
        by_cases hlt : q < m
        · have HKQ : Hid (q < l.length) := by show q < _; rw [HM.out]; exact hlt
          have hcell : ∀ w : World, Rep.cells (fun _ => False) w [.int .i64 (q : Int)] (q : Int) := fun w => cells_int (by unfold I64; omega)
          have hl1 := filt_len (fun n => hangs l k n) q
          have hl2 := filt_len (fun n => hangs l n k) q
          have hl3 := chopAt_len l k q2 ok q
          have F1 := Lib.hid (filt_succ (fun n => hangs l k n) q); have F2 := Lib.hid (filt_succ (fun n => hangs l n k) q); have F3 := Lib.hid (chopAt_succ l k q2 ok q)
          generalize filt (fun n => hangs l k n) q = X1 at *
          generalize filt (fun n => hangs l n k) q = X2 at *
          generalize chopAt l k q2 ok q = X3 at *
          have HA : Hid (∀ w', Grow w7 w' → Arr (fun x => x < W.heap.size) w' a l) := fun w' hw => h0.keep (keep_of_below (mild_grow.trans H7.out hw))
          have HSZ : Hid (∀ w', Grow w7 w' → ∀ b, b < W.heap.size → b < w'.heap.size) := fun w' hw b hb => Nat.lt_of_lt_of_le hb (mild_grow.trans H7.out hw).size
          have hok2 := hvok
          cases ok
          case' false =>
            have hV : ¬ V = 0 := by simpa using hvok
            go_wp2_with fail
            refine (rhangs_at (HA.out _ G.out) (HSZ.out _ G.out) HV.out HKL.out HKQ.out HL2.out HM.out).mono ?_
            rintro e w8 ⟨rfl, hb8⟩
            have O1 := Lib.hid (O1.out.below hb8 (fun _ h => h.elim)); have O2 := Lib.hid (O2.out.below hb8 (fun _ h => h.elim)); have O3 := Lib.hid (O3.out.below hb8 (fun _ h => h.elim)); have G := Lib.hid (mild_grow.trans G.out hb8)
            clear hb8
            have hbase := G.out.size
            generalize hangs l k q = b1 at *
            cases b1
            case' true =>
              have F1 : Hid (filt (fun n => hangs l k n) (q + 1) = X1 ++ [(q : Int)]) := by show _ = _; rw [F1.out]; simp
              go_wp2_with (at_builtin; with_reducible refine Try.wp_appd22 rfl rfl rfl rfl rfl (by first | rfl | simp) (O1.out) (hcell _) (fun _ h => h.elim) (by omega) (by first | omega | (simp; omega)) fun v' w' hown' hg' hst' => ?_)
              have TO2 : ∀ k, u16.ownBlock = some k → k < w8.heap.size := fun k hk => (O2.out.lt k hk).2
              have O2 := Lib.hid (O2.out.apart hg' P1.out (fun _ h => h.elim))
              have P1 := Lib.hid ((P1.out.moved hst' TO2))
              have TO3 : ∀ k, u17.ownBlock = some k → k < w8.heap.size := fun k hk => (O3.out.lt k hk).2
              have O3 := Lib.hid (O3.out.apart hg' P2.out (fun _ h => h.elim))
              have P2 := Lib.hid ((P2.out.moved hst' TO3))
              have G := Lib.hid (G.out.grown hg' hbase (fun k hk => (O1.out.lt k hk).1))
              have O1 := Lib.hid hown'
              clear hown' hg' hst' TO2 TO3
              obtain ⟨w8, rfl⟩ : ∃ x : World, x = w' := ⟨_, rfl⟩
              obtain ⟨u15, rfl⟩ : ∃ x : Value, x = v' := ⟨_, rfl⟩
            case' false =>
              have F1 : Hid (filt (fun n => hangs l k n) (q + 1) = X1) := by show _ = _; rw [F1.out]; simp
              go_wp2_with fail
            all_goals
              refine (rhangs_at (HA.out _ G.out) (HSZ.out _ G.out) HV.out HKQ.out HKL.out HL2.out HM.out).mono ?_
              rintro e w9 ⟨rfl, hb8⟩
              have O1 := Lib.hid (O1.out.below hb8 (fun _ h => h.elim)); have O2 := Lib.hid (O2.out.below hb8 (fun _ h => h.elim)); have O3 := Lib.hid (O3.out.below hb8 (fun _ h => h.elim)); have G := Lib.hid (mild_grow.trans G.out hb8)
              clear hb8
              have hbase := G.out.size
              obtain ⟨w8, rfl⟩ : ∃ x : World, x = w9 := ⟨_, rfl⟩
              obtain ⟨b2, hb2⟩ : ∃ b2, b2 = hangs l q k := ⟨_, rfl⟩
              rw [← hb2] at F2 F3 ⊢
              have HB2 := Lib.hid hb2
              clear hb2
              cases b2
              case' true =>
                have F2 : Hid (filt (fun n => hangs l n k) (q + 1) = X2 ++ [(q : Int)]) := by show _ = _; rw [F2.out]; simp
                go_wp2_with (at_builtin; with_reducible refine Try.wp_appd22 rfl rfl rfl rfl rfl (by first | rfl | simp) (O2.out) (hcell _) (fun _ h => h.elim) (by omega) (by first | omega | (simp; omega)) fun v' w' hown' hg' hst' => ?_)
                have TO1 : ∀ k, u15.ownBlock = some k → k < w8.heap.size := fun k hk => (O1.out.lt k hk).2
                have O1 := Lib.hid (O1.out.apart hg' P1.out.symm (fun _ h => h.elim))
                have P1 := Lib.hid ((P1.out.symm.moved hst' TO1).symm)
                have TO3 : ∀ k, u17.ownBlock = some k → k < w8.heap.size := fun k hk => (O3.out.lt k hk).2
                have O3 := Lib.hid (O3.out.apart hg' P3.out (fun _ h => h.elim))
                have P3 := Lib.hid ((P3.out.moved hst' TO3))
                have G := Lib.hid (G.out.grown hg' hbase (fun k hk => (O2.out.lt k hk).1))
                have O2 := Lib.hid hown'
                clear hown' hg' hst' TO1 TO3
                obtain ⟨w8, rfl⟩ : ∃ x : World, x = w' := ⟨_, rfl⟩
                obtain ⟨u16, rfl⟩ : ∃ x : Value, x = v' := ⟨_, rfl⟩
              case' false =>
                have F2 : Hid (filt (fun n => hangs l n k) (q + 1) = X2) := by show _ = _; rw [F2.out]; simp
                go_wp2_with fail
              all_goals
                have F3 : Hid (chopAt l k q2 false (q + 1) = X3) := by show _ = _; rw [F3.out]; simp
                go_roundw
                case rel => exact ⟨q + 1, by omega, by go_num, by rw [F1.out]; exact O1.out, by rw [F2.out]; exact O2.out, by rw [F3.out]; exact O3.out, P1.out, P2.out, P3.out, G.out⟩
                case measure => simp [intOf] <;> omega
          case' true =>
            obtain rfl : V = 0 := by simpa using hvok
            obtain ⟨hj2, hqm⟩ := HJ.out rfl
            subst hj2
            go_wp2_with fail
            refine (rhangs_at (HA.out _ G.out) (HSZ.out _ G.out) HV.out HKL.out HKQ.out HL2.out HM.out).mono ?_
            rintro e w8 ⟨rfl, hb8⟩
            have O1 := Lib.hid (O1.out.below hb8 (fun _ h => h.elim)); have O2 := Lib.hid (O2.out.below hb8 (fun _ h => h.elim)); have O3 := Lib.hid (O3.out.below hb8 (fun _ h => h.elim)); have G := Lib.hid (mild_grow.trans G.out hb8)
            clear hb8
            have hbase := G.out.size
            generalize hangs l k q = b1 at *
            cases b1
            case' true =>
              have F1 : Hid (filt (fun n => hangs l k n) (q + 1) = X1 ++ [(q : Int)]) := by show _ = _; rw [F1.out]; simp
              go_wp2_with (at_builtin; with_reducible refine Try.wp_appd22 rfl rfl rfl rfl rfl (by first | rfl | simp) (O1.out) (hcell _) (fun _ h => h.elim) (by omega) (by first | omega | (simp; omega)) fun v' w' hown' hg' hst' => ?_)
              have TO2 : ∀ k, u16.ownBlock = some k → k < w8.heap.size := fun k hk => (O2.out.lt k hk).2
              have O2 := Lib.hid (O2.out.apart hg' P1.out (fun _ h => h.elim))
              have P1 := Lib.hid ((P1.out.moved hst' TO2))
              have TO3 : ∀ k, u17.ownBlock = some k → k < w8.heap.size := fun k hk => (O3.out.lt k hk).2
              have O3 := Lib.hid (O3.out.apart hg' P2.out (fun _ h => h.elim))
              have P2 := Lib.hid ((P2.out.moved hst' TO3))
              have G := Lib.hid (G.out.grown hg' hbase (fun k hk => (O1.out.lt k hk).1))
              have O1 := Lib.hid hown'
              clear hown' hg' hst' TO2 TO3
              obtain ⟨w8, rfl⟩ : ∃ x : World, x = w' := ⟨_, rfl⟩
              obtain ⟨u15, rfl⟩ : ∃ x : Value, x = v' := ⟨_, rfl⟩
            case' false =>
              have F1 : Hid (filt (fun n => hangs l k n) (q + 1) = X1) := by show _ = _; rw [F1.out]; simp
              go_wp2_with fail
            all_goals
              refine (rhangs_at (HA.out _ G.out) (HSZ.out _ G.out) HV.out HKQ.out HKL.out HL2.out HM.out).mono ?_
              rintro e w9 ⟨rfl, hb8⟩
              have O1 := Lib.hid (O1.out.below hb8 (fun _ h => h.elim)); have O2 := Lib.hid (O2.out.below hb8 (fun _ h => h.elim)); have O3 := Lib.hid (O3.out.below hb8 (fun _ h => h.elim)); have G := Lib.hid (mild_grow.trans G.out hb8)
              clear hb8
              have hbase := G.out.size
              obtain ⟨w8, rfl⟩ : ∃ x : World, x = w9 := ⟨_, rfl⟩
              obtain ⟨b2, hb2⟩ : ∃ b2, b2 = hangs l q k := ⟨_, rfl⟩
              rw [← hb2] at F2 F3 ⊢
              have HB2 := Lib.hid hb2
              clear hb2
              cases b2
              case' true =>
                have F2 : Hid (filt (fun n => hangs l n k) (q + 1) = X2 ++ [(q : Int)]) := by show _ = _; rw [F2.out]; simp
                go_wp2_with (at_builtin; with_reducible refine Try.wp_appd22 rfl rfl rfl rfl rfl (by first | rfl | simp) (O2.out) (hcell _) (fun _ h => h.elim) (by omega) (by first | omega | (simp; omega)) fun v' w' hown' hg' hst' => ?_)
                have TO1 : ∀ k, u15.ownBlock = some k → k < w8.heap.size := fun k hk => (O1.out.lt k hk).2
                have O1 := Lib.hid (O1.out.apart hg' P1.out.symm (fun _ h => h.elim))
                have P1 := Lib.hid ((P1.out.symm.moved hst' TO1).symm)
                have TO3 : ∀ k, u17.ownBlock = some k → k < w8.heap.size := fun k hk => (O3.out.lt k hk).2
                have O3 := Lib.hid (O3.out.apart hg' P3.out (fun _ h => h.elim))
                have P3 := Lib.hid ((P3.out.moved hst' TO3))
                have G := Lib.hid (G.out.grown hg' hbase (fun k hk => (O2.out.lt k hk).1))
                have O2 := Lib.hid hown'
                clear hown' hg' hst' TO1 TO3
                obtain ⟨w8, rfl⟩ : ∃ x : World, x = w' := ⟨_, rfl⟩
                obtain ⟨u16, rfl⟩ : ∃ x : Value, x = v' := ⟨_, rfl⟩
              case' false =>
                have F2 : Hid (filt (fun n => hangs l n k) (q + 1) = X2) := by show _ = _; rw [F2.out]; simp
                go_wp2_with fail
              all_goals
                rw [Bool.true_and] at F3
                refine (rhangs_at (HA.out _ G.out) (HSZ.out _ G.out) HV.out HKQ.out HKL.out HL2.out HM.out).mono ?_
                rintro e w9 ⟨rfl, hb8⟩
                have O1 := Lib.hid (O1.out.below hb8 (fun _ h => h.elim)); have O2 := Lib.hid (O2.out.below hb8 (fun _ h => h.elim)); have O3 := Lib.hid (O3.out.below hb8 (fun _ h => h.elim)); have G := Lib.hid (mild_grow.trans G.out hb8)
                clear hb8
                have hbase := G.out.size
                obtain ⟨w8, rfl⟩ : ∃ x : World, x = w9 := ⟨_, rfl⟩
                rw [← HB2.out]
                clear HB2
                have hq2l : q2 < l.length := by rw [HM.out]; exact hqm
                first
                | (have F3 : Hid (chopAt l k q2 true (q + 1) = X3) := by show _ = _; rw [F3.out]; simp
                   go_wp2_with fail
                   go_roundw
                   case rel => exact ⟨q + 1, by omega, by go_num, by rw [F1.out]; exact O1.out, by rw [F2.out]; exact O2.out, by rw [F3.out]; exact O3.out, P1.out, P2.out, P3.out, G.out⟩
                   case measure => simp [intOf] <;> omega)
                | (rw [Bool.true_and] at F3
                   go_wp2_with fail
                   refine (rhangs_at (HA.out _ G.out) (HSZ.out _ G.out) HV.out hq2l HKQ.out HL2.out HM.out).mono ?_
                   rintro e w9 ⟨rfl, hb8⟩
                   have O1 := Lib.hid (O1.out.below hb8 (fun _ h => h.elim)); have O2 := Lib.hid (O2.out.below hb8 (fun _ h => h.elim)); have O3 := Lib.hid (O3.out.below hb8 (fun _ h => h.elim)); have G := Lib.hid (mild_grow.trans G.out hb8)
                   clear hb8
                   have hbase := G.out.size
                   generalize hangs l q2 q = b3 at *
                   cases b3
                   case false =>
                     have F3 : Hid (chopAt l k q2 true (q + 1) = X3) := by show _ = _; rw [F3.out]; simp
                     go_wp2_with fail
                     go_roundw
                     case rel => exact ⟨q + 1, by omega, by go_num, by rw [F1.out]; exact O1.out, by rw [F2.out]; exact O2.out, by rw [F3.out]; exact O3.out, P1.out, P2.out, P3.out, G.out⟩
                     case measure => simp [intOf] <;> omega
                   case true =>
                     have F3 : Hid (chopAt l k q2 true (q + 1) = X3 ++ [(q : Int)]) := by show _ = _; rw [F3.out]; simp
                     go_wp2_with (at_builtin; with_reducible refine Try.wp_appd22 rfl rfl rfl rfl rfl (by first | rfl | simp) (O3.out) (hcell _) (fun _ h => h.elim) (by omega) (by first | omega | (simp; omega)) fun v' w' hown' hg' hst' => ?_)
                     have TO1 : ∀ k, u15.ownBlock = some k → k < w9.heap.size := fun k hk => (O1.out.lt k hk).2
                     have TO2 : ∀ k, u16.ownBlock = some k → k < w9.heap.size := fun k hk => (O2.out.lt k hk).2
                     have O1 := Lib.hid (O1.out.apart hg' P2.out.symm (fun _ h => h.elim)); have O2 := Lib.hid (O2.out.apart hg' P3.out.symm (fun _ h => h.elim))
                     have P2 := Lib.hid ((P2.out.symm.moved hst' TO1).symm); have P3 := Lib.hid ((P3.out.symm.moved hst' TO2).symm)
                     have G := Lib.hid (G.out.grown hg' hbase (fun k hk => (O3.out.lt k hk).1))
                     have O3 := Lib.hid hown'
                     clear hown' hg' hst' TO1 TO2
                     go_roundw
                     case rel => exact ⟨q + 1, by omega, by go_num, by rw [F1.out]; exact O1.out, by rw [F2.out]; exact O2.out, by rw [F3.out]; exact O3.out, P1.out, P2.out, P3.out, G.out⟩
                     case measure => simp [intOf] <;> omega)
        · obtain rfl : q = m := by omega
          obtain ⟨b1, d1, rfl, -, -, x1⟩ := own_fresh O1.out
          obtain ⟨b2, d2, rfl, -, -, x2⟩ := own_fresh O2.out
          obtain ⟨b3, d3, rfl, -, -, x3⟩ := own_fresh O3.out
          have X1 := Lib.hid x1; have X2 := Lib.hid x2; have X3 := Lib.hid x3
          have Y1 := Lib.hid (K1.out.keep (w' := wr) (fun b hb => G.out.block b (Nat.lt_of_lt_of_le hb.2 hs17))); have Y2 := Lib.hid (K2.out.keep (w' := wr) (fun b hb => G.out.block b (Nat.lt_of_lt_of_le hb.2 hs27))); have Y3 := Lib.hid (K3.out.keep (w' := wr) (fun b hb => G.out.block b (Nat.lt_of_lt_of_le hb.2 hs37)))
          have HG := Lib.hid (mild_grow.trans H7.out G.out)
          have hvv : (V == V) = true := by simp
          clear x1 x2 x3 K1 K2 K3 O1 O2 O3 hvok HJ h0
          go_wp2_with fail
          refine (same_ints_refl Y1.out X1.out).mono ?_
          rintro e z1 ⟨rfl, hz1⟩
          have Z1 := Lib.hid hz1
          clear hz1
          go_wp2_with fail
          refine (same_ints_refl (Y2.out.keep (fun b _ => Z1.out.heap b)) (X2.out.keep (fun b _ => Z1.out.heap b))).mono ?_
          rintro e z2 ⟨rfl, hz2⟩
          have Z2 := Lib.hid (Z1.out.trans hz2)
          clear hz2
          go_wp2_with fail
          refine (same_ints_refl (Y3.out.keep (fun b _ => Z2.out.heap b)) (X3.out.keep (fun b _ => Z2.out.heap b))).mono ?_
          rintro e z3 ⟨rfl, hz3⟩
          have Z3 := Lib.hid (HG.out.trans ((Z2.out.trans hz3).below _))
          clear hz3
          go_wp2
          go_ret
          exact ⟨rfl, Z3.out⟩
    · have E1 : backRes l i = ([], errOf l [i]) := if_neg he
      have E2 : onRes l i = ([], errOf l [i]) := if_neg he
      have E4 := errOf_more (j := j) he
      have E3 : chopRes l i j = ([], errOf l [i]) := by rw [chopRes, E4, if_neg he]
      rw [E1, E2, E3, E4]
      clear K1 K2 K3 E1 E2 E3 E4 h0 HL HM
      generalize errOf l [i] = E at *
      have hE : (E == 0) = false := by simpa using he
      have hEE : (E == E) = true := by simp
      clear he
      go_wp2_with fail
      go_loopw [15, 16, 17, 18] (fun b o c n w' => b = .slice none 0 0 ∧ o = .slice none 0 0 ∧ c = .slice none 0 0 ∧ n = .int .i64 0 ∧ Quiet w7 w') (fun _ _ _ n _ => 0)
      case atStart => exact ⟨rfl, rfl, rfl, rfl, Quiet.refl _⟩
      case round =>
        obtain ⟨rfl, rfl, rfl, rfl, hq⟩ := hrel
        have Q := Lib.hid hq
        clear hq
        have sm : ∀ (w : World) (a1 a2 : Option Addr) (c1 c2 : Nat), Calls Try.prog 17 #[.slice a1 0 c1, .slice a2 0 c2] w fun e w' => e = .returned (.bool true) ∧ Quiet w w' := fun w a1 a2 c1 c2 => same_ints_refl (xs := []) (Arr.nil (fun _ => True) w a1) (Arr.nil (fun _ => True) w a2)
        have SM := Lib.hid sm
        clear sm
        go_wp2_with fail
        all_goals
          refine (SM.out _ _ _ _ _).mono ?_
          rintro e z1 ⟨rfl, hz1⟩
          have Z1 := Lib.hid (Q.out.trans hz1)
          clear hz1
          go_wp2_with fail
          refine (SM.out _ _ _ _ _).mono ?_
          rintro e z2 ⟨rfl, hz2⟩
          have Z2 := Lib.hid (Z1.out.trans hz2)
          clear hz2
          go_wp2_with fail
          refine (SM.out _ _ _ _ _).mono ?_
          rintro e z3 ⟨rfl, hz3⟩
          have Z3 := Lib.hid (H7.out.trans ((Z2.out.trans hz3).below _))
          clear hz3
          go_wp2
          go_ret
          exact ⟨rfl, Z3.out⟩
end Go.Proofs.Ytimlhjjdaggiiaa.slice
