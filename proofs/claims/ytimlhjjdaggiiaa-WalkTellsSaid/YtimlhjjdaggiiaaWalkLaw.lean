/- The law WalkTells, walked. -/
import Derived.Test.YtimlhjjdaggiiaaWalkB
import Derived.Test.YtimlhjjdaggiiaaWalkC
import Derived.Test.YtimlhjjdaggiiaaWalkD
set_option linter.unusedVariables false
set_option linter.unusedSimpArgs false
namespace Go.Proofs.Ytimlhjjdaggiiaa.walk
open Go.Bk Go.RowKit

def lawRel (w : World) (l : List Api.DMark) (x : Api.DMark) (i : Nat) (how : Int) (nx la v : Value) (w' : World) : Prop :=
  ∃ (k : Nat) (r1 r2 : Option Nat), k ≤ l.length ∧ v = .int .i64 k ∧ nx = .int .i64 (optI r1) ∧ la = .int .i64 (optI r2) ∧ FirstIn (fromAt l x how) (i + 1) k r1 ∧ LastIn (toAt l x how) (min k i) r2 ∧ Below w.heap.size w w'

set_option maxRecDepth 100000 in
set_option maxHeartbeats 2000000 in
theorem law_ok {w : World} {a : Option Addr} {c : Nat} {l : List Api.DMark} {i how : Int} (h : Arr (· < w.heap.size) w a l) (he : errOf l.length i how = 0) :
    Calls Try.prog 7 #[.slice a l.length c, .int .i64 i, .int .i64 how] w fun e w' => e = .returned (.bool true) ∧ Below w.heap.size w w' := by
  have hm := h.small
  unfold maxLen at hm
  obtain ⟨e1, e2, e3, e4, e5⟩ := errOf_zero he
  have hv : errOf l.length i 1 = 0 := by unfold errOf; rw [if_neg (by omega), if_neg (by omega)]
  have HE := Lib.hid he; have HV := Lib.hid hv
  clear he hv
  obtain ⟨n, rfl⟩ : ∃ n : Nat, i = n := ⟨i.toNat, by omega⟩
  have hn : n < l.length := by omega
  obtain ⟨x, hx⟩ : ∃ x, l[n]? = some x := ⟨_, List.getElem?_eq_getElem hn⟩
  have HX := Lib.hid hx
  clear hx
  go_enter Try.func7, Try.ntmps7
  go_wp2_with fail
  refine (next_any h (fun _ h => h)).mono ?_
  rintro e w1 ⟨⟨r1, rfl, g1⟩, hb1⟩
  have HG1 := Lib.hid g1; have HB1 := Lib.hid hb1
  have h1 := h.keep (w' := w1) (keep_of_below hb1)
  have s1 := hb1.size
  clear g1 hb1 h
  go_wp2_with fail
  refine (last_any h1 (fun b h => by omega)).mono ?_
  rintro e w2 ⟨⟨r2, rfl, g2⟩, hb2⟩
  have HG2 := Lib.hid g2; have HB2 := Lib.hid (HB1.out.trans (hb2.mono s1))
  have h2 := h1.keep (w' := w2) (fun b h => hb2.block b (by omega))
  have s2 := hb2.size
  clear g2 hb2 h1
  go_wp2_with fail
  refine (top_any h2 (fun b h => by omega)).mono ?_
  rintro e w3 ⟨⟨t, rfl, g3⟩, hq3⟩
  have HG3 := Lib.hid g3; have HB3 := Lib.hid (HB2.out.trans (hq3.below _))
  have h3 := h2.keep (w' := w3) (fun b h => hq3.heap b)
  clear g3 hq3 h2
  go_wp2_with fail
  refine (werr_any h3).mono ?_
  rintro e w4 ⟨rfl, rfl⟩
  go_wp2_with fail
  refine (werr_any h3).mono ?_
  rintro e w4 ⟨rfl, rfl⟩
  simp only [HE.out, HV.out]
  go_wp2_with fail
  clear e1
  go_loopw [17, 18, 20] (lawRel w l x n how) (fun _ _ i _ => l.length - (intOf i).toNat)
  case atStart => exact ⟨0, none, none, Nat.zero_le _, rfl, rfl, rfl, fun j h1 h2 => by omega, fun j h => by omega, HB3.out⟩
  case round =>
    obtain ⟨k, q1, q2, hk, rfl, rfl, rfl, f1, f2, hb⟩ := hrel
    have HB := Lib.hid hb; have HF1 := Lib.hid f1; have HF2 := Lib.hid f2
    have h4 := h3.keep (w' := wr) (fun b h => by rw [hb.block b h, ← HB3.out.block b h])
    clear hb f1 f2 h3
    by_cases hlt : k < l.length
    · obtain ⟨y, hy⟩ : ∃ y, l[k]? = some y := ⟨_, List.getElem?_eq_getElem hlt⟩
      have HY := Lib.hid hy
      obtain ⟨b, off, rfl, hSb, p1, p2, p3, -⟩ := api_DMark_elem h4 HX.out
      obtain ⟨b', off', he', -, p4, p5, p6, -⟩ := api_DMark_elem h4 HY.out
      obtain ⟨rfl, rfl⟩ : b = b' ∧ off = off' := by simpa using he'
      have hbl : b < wr.heap.size := by have := HB.out.size; omega
      clear hy he'
      rcases Nat.lt_trichotomy n k with hnk | hnk | hnk
      · have g1 : decide (n < k) = true := by simp [hnk]
        have g2 : decide (k < n) = false := by simp; omega
        have F2 : Hid (LastIn (toAt l x how) (min (k + 1) n) q2) := by have := HF2.out; rw [show min k n = n by omega] at this; show LastIn _ (min (k + 1) n) _; rw [show min (k + 1) n = n by omega]; exact this
        cases q1 with
        | none =>
          rw [show optI none = (-1 : Int) from rfl]
          cases hr : rchR x y how with
          | true =>
            have HP : Hid (fromAt l x how k = true) := by show _ = _; unfold fromAt; rw [HY.out]; exact hr
            go_wp2
            first | (refine wp_region_drift_lit (by kernel_rfl) (by kernel_rfl) (fun hdr => ?_); (repeat (go_big_quiet_step ((go_at_call 33; exact drift_of (hr ▸ rreached_any))))); refine wpQuiet_nil ?_; intro wq hw'; obtain ⟨⟨wd, hbd⟩, hw''⟩ := hw'; dsimp only at hw''; subst wq; clear hdr)
            have HD := Lib.hid (HB.out.trans (hbd.mono HB.out.size))
            have h5 := h4.keep (w' := wd) (fun b h => hbd.block b (by have := HB.out.size; omega))
            obtain ⟨b', off', he', -, p1', p2', p3', -⟩ := api_DMark_elem h5 HX.out
            obtain ⟨rfl, rfl⟩ : b = b' ∧ off = off' := by simpa using he'
            obtain ⟨b', off', he', -, p4', p5', p6', -⟩ := api_DMark_elem h5 HY.out
            obtain ⟨rfl, rfl⟩ : b = b' ∧ off = off' := by simpa using he'
            have hbl' : b < wd.heap.size := by have := hbd.size; omega
            clear hbd h4 h5 he' p1 p2 p3 p4 p5 p6
            go_wp2
            first | (refine wp_region_drift_lit (by kernel_rfl) (by kernel_rfl) (fun hdr => ?_); (repeat (go_big_quiet_step (fail))); refine wpQuiet_nil ?_; intro wq hw'; obtain ⟨⟨wd, hbd⟩, hw''⟩ := hw'; dsimp only at hw''; subst wq; clear hdr)
            have HD2 := Lib.hid (HD.out.trans (hbd.mono HD.out.size))
            clear hbd
            go_wp2
            go_roundw
            case rel => exact ⟨k + 1, some k, q2, by omega, by go_num, rfl, rfl, HF1.out.hit (by omega) HP.out, F2.out, HD2.out⟩
            case measure => simp [intOf]; omega
          | false =>
            have HP : Hid (fromAt l x how k = false) := by show _ = _; unfold fromAt; rw [HY.out]; exact hr
            go_wp2
            first | (refine wp_region_drift_lit (by kernel_rfl) (by kernel_rfl) (fun hdr => ?_); (repeat (go_big_quiet_step ((go_at_call 33; exact drift_of (hr ▸ rreached_any))))); refine wpQuiet_nil ?_; intro wq hw'; obtain ⟨⟨wd, hbd⟩, hw''⟩ := hw'; dsimp only at hw''; subst wq; clear hdr)
            have HD := Lib.hid (HB.out.trans (hbd.mono HB.out.size))
            have h5 := h4.keep (w' := wd) (fun b h => hbd.block b (by have := HB.out.size; omega))
            obtain ⟨b', off', he', -, p1', p2', p3', -⟩ := api_DMark_elem h5 HX.out
            obtain ⟨rfl, rfl⟩ : b = b' ∧ off = off' := by simpa using he'
            obtain ⟨b', off', he', -, p4', p5', p6', -⟩ := api_DMark_elem h5 HY.out
            obtain ⟨rfl, rfl⟩ : b = b' ∧ off = off' := by simpa using he'
            have hbl' : b < wd.heap.size := by have := hbd.size; omega
            clear hbd h4 h5 he' p1 p2 p3 p4 p5 p6
            go_wp2
            first | (refine wp_region_drift_lit (by kernel_rfl) (by kernel_rfl) (fun hdr => ?_); (repeat (go_big_quiet_step (fail))); refine wpQuiet_nil ?_; intro wq hw'; obtain ⟨⟨wd, hbd⟩, hw''⟩ := hw'; dsimp only at hw''; subst wq; clear hdr)
            have HD2 := Lib.hid (HD.out.trans (hbd.mono HD.out.size))
            clear hbd
            go_wp2
            go_roundw
            case rel => exact ⟨k + 1, none, q2, by omega, by go_num, rfl, rfl, HF1.out.skip (.inr (.inr HP.out)), F2.out, HD2.out⟩
            case measure => simp [intOf]; omega
        | some m =>
          rw [show optI (some m) = (m : Int) from rfl]
          have gm : decide ((m : Int) < 0) = false := by simp
          go_wp2
          first | (refine wp_region_drift_lit (by kernel_rfl) (by kernel_rfl) (fun hdr => ?_); (repeat (go_big_quiet_step (fail))); refine wpQuiet_nil ?_; intro wq hw'; obtain ⟨⟨wd, hbd⟩, hw''⟩ := hw'; dsimp only at hw''; subst wq; clear hdr)
          have HD := Lib.hid (HB.out.trans (hbd.mono HB.out.size))
          have h5 := h4.keep (w' := wd) (fun b h => hbd.block b (by have := HB.out.size; omega))
          obtain ⟨b', off', he', -, p1', p2', p3', -⟩ := api_DMark_elem h5 HX.out
          obtain ⟨rfl, rfl⟩ : b = b' ∧ off = off' := by simpa using he'
          obtain ⟨b', off', he', -, p4', p5', p6', -⟩ := api_DMark_elem h5 HY.out
          obtain ⟨rfl, rfl⟩ : b = b' ∧ off = off' := by simpa using he'
          have hbl' : b < wd.heap.size := by have := hbd.size; omega
          clear hbd h4 h5 he' p1 p2 p3 p4 p5 p6
          go_wp2
          first | (refine wp_region_drift_lit (by kernel_rfl) (by kernel_rfl) (fun hdr => ?_); (repeat (go_big_quiet_step (fail))); refine wpQuiet_nil ?_; intro wq hw'; obtain ⟨⟨wd, hbd⟩, hw''⟩ := hw'; dsimp only at hw''; subst wq; clear hdr)
          have HD2 := Lib.hid (HD.out.trans (hbd.mono HD.out.size))
          clear hbd
          go_wp2
          go_roundw
          case rel => exact ⟨k + 1, some m, q2, by omega, by go_num, rfl, rfl, HF1.out.skip (.inr (.inl (by simp))), F2.out, HD2.out⟩
          case measure => simp [intOf]; omega
      · have g1 : decide (n < k) = false := by simp; omega
        have g2 : decide (k < n) = false := by simp; omega
        have F2 : Hid (LastIn (toAt l x how) (min (k + 1) n) q2) := by have := HF2.out; rw [show min k n = n by omega] at this; show LastIn _ (min (k + 1) n) _; rw [show min (k + 1) n = n by omega]; exact this
        have hkn : k < n + 1 := by omega
        have HNK := Lib.hid hnk
        clear hnk
        go_wp2
        first | (refine wp_region_drift_lit (by kernel_rfl) (by kernel_rfl) (fun hdr => ?_); (repeat (go_big_quiet_step (fail))); refine wpQuiet_nil ?_; intro wq hw'; obtain ⟨⟨wd, hbd⟩, hw''⟩ := hw'; dsimp only at hw''; subst wq; clear hdr)
        have HD := Lib.hid (HB.out.trans (hbd.mono HB.out.size))
        have h5 := h4.keep (w' := wd) (fun b h => hbd.block b (by have := HB.out.size; omega))
        obtain ⟨b', off', he', -, p1', p2', p3', -⟩ := api_DMark_elem h5 HX.out
        obtain ⟨rfl, rfl⟩ : b = b' ∧ off = off' := by simpa using he'
        obtain ⟨b', off', he', -, p4', p5', p6', -⟩ := api_DMark_elem h5 HY.out
        obtain ⟨rfl, rfl⟩ : b = b' ∧ off = off' := by simpa using he'
        have hbl' : b < wd.heap.size := by have := hbd.size; omega
        clear hbd h4 h5 he' p1 p2 p3 p4 p5 p6
        go_wp2
        first | (refine wp_region_drift_lit (by kernel_rfl) (by kernel_rfl) (fun hdr => ?_); (repeat (go_big_quiet_step (fail))); refine wpQuiet_nil ?_; intro wq hw'; obtain ⟨⟨wd, hbd⟩, hw''⟩ := hw'; dsimp only at hw''; subst wq; clear hdr)
        have HD2 := Lib.hid (HD.out.trans (hbd.mono HD.out.size))
        clear hbd
        go_wp2
        go_roundw
        case rel => exact ⟨k + 1, q1, q2, by omega, by go_num, rfl, rfl, HF1.out.skip (.inl hkn), F2.out, HD2.out⟩
        case measure => simp [intOf]; omega
      · have g1 : decide (n < k) = false := by simp; omega
        have g2 : decide (k < n) = true := by simp; omega
        have hF : Hid (LastIn (toAt l x how) k q2) := by have := HF2.out; rw [show min k n = k by omega] at this; exact this
        have hm1 : Hid (min (k + 1) n = k + 1) := by show _ = _; omega
        cases hr : rchR y x how with
        | true =>
          have HP : Hid (toAt l x how k = true) := by show _ = _; unfold toAt; rw [HY.out]; exact hr
          go_wp2
          first | (refine wp_region_drift_lit (by kernel_rfl) (by kernel_rfl) (fun hdr => ?_); (repeat (go_big_quiet_step (fail))); refine wpQuiet_nil ?_; intro wq hw'; obtain ⟨⟨wd, hbd⟩, hw''⟩ := hw'; dsimp only at hw''; subst wq; clear hdr)
          have HD := Lib.hid (HB.out.trans (hbd.mono HB.out.size))
          have h5 := h4.keep (w' := wd) (fun b h => hbd.block b (by have := HB.out.size; omega))
          obtain ⟨b', off', he', -, p1', p2', p3', -⟩ := api_DMark_elem h5 HX.out
          obtain ⟨rfl, rfl⟩ : b = b' ∧ off = off' := by simpa using he'
          obtain ⟨b', off', he', -, p4', p5', p6', -⟩ := api_DMark_elem h5 HY.out
          obtain ⟨rfl, rfl⟩ : b = b' ∧ off = off' := by simpa using he'
          have hbl' : b < wd.heap.size := by have := hbd.size; omega
          clear hbd h4 h5 he' p1 p2 p3 p4 p5 p6
          go_wp2
          first | (refine wp_region_drift_lit (by kernel_rfl) (by kernel_rfl) (fun hdr => ?_); (repeat (go_big_quiet_step ((go_at_call 33; exact drift_of (hr ▸ rreached_any))))); refine wpQuiet_nil ?_; intro wq hw'; obtain ⟨⟨wd, hbd⟩, hw''⟩ := hw'; dsimp only at hw''; subst wq; clear hdr)
          have HD2 := Lib.hid (HD.out.trans (hbd.mono HD.out.size))
          clear hbd
          go_wp2
          go_roundw
          case rel => exact ⟨k + 1, q1, some k, by omega, by go_num, rfl, rfl, HF1.out.skip (.inl (by omega)), by rw [hm1.out]; exact LastIn.hit HP.out, HD2.out⟩
          case measure => simp [intOf]; omega
        | false =>
          have HP : Hid (toAt l x how k = false) := by show _ = _; unfold toAt; rw [HY.out]; exact hr
          go_wp2
          first | (refine wp_region_drift_lit (by kernel_rfl) (by kernel_rfl) (fun hdr => ?_); (repeat (go_big_quiet_step (fail))); refine wpQuiet_nil ?_; intro wq hw'; obtain ⟨⟨wd, hbd⟩, hw''⟩ := hw'; dsimp only at hw''; subst wq; clear hdr)
          have HD := Lib.hid (HB.out.trans (hbd.mono HB.out.size))
          have h5 := h4.keep (w' := wd) (fun b h => hbd.block b (by have := HB.out.size; omega))
          obtain ⟨b', off', he', -, p1', p2', p3', -⟩ := api_DMark_elem h5 HX.out
          obtain ⟨rfl, rfl⟩ : b = b' ∧ off = off' := by simpa using he'
          obtain ⟨b', off', he', -, p4', p5', p6', -⟩ := api_DMark_elem h5 HY.out
          obtain ⟨rfl, rfl⟩ : b = b' ∧ off = off' := by simpa using he'
          have hbl' : b < wd.heap.size := by have := hbd.size; omega
          clear hbd h4 h5 he' p1 p2 p3 p4 p5 p6
          go_wp2
          first | (refine wp_region_drift_lit (by kernel_rfl) (by kernel_rfl) (fun hdr => ?_); (repeat (go_big_quiet_step ((go_at_call 33; exact drift_of (hr ▸ rreached_any))))); refine wpQuiet_nil ?_; intro wq hw'; obtain ⟨⟨wd, hbd⟩, hw''⟩ := hw'; dsimp only at hw''; subst wq; clear hdr)
          have HD2 := Lib.hid (HD.out.trans (hbd.mono HD.out.size))
          clear hbd
          go_wp2
          go_roundw
          case rel => exact ⟨k + 1, q1, q2, by omega, by go_num, rfl, rfl, HF1.out.skip (.inl (by omega)), by rw [hm1.out]; exact LastIn.skip hF.out HP.out, HD2.out⟩
          case measure => simp [intOf]; omega
    · have hq1 : Hid (q1 = r1) := by
        obtain ⟨x', hx', hF⟩ := HG1.out.2 HE.out
        obtain rfl := Option.some.inj (hx'.symm.trans (show l[(n : Int).toNat]? = some x from HX.out))
        have hk' : k = l.length := by omega
        exact (hk' ▸ HF1.out).unique hF
      have hq2 : Hid (q2 = r2) := by
        obtain ⟨x', hx', hF⟩ := HG2.out.2 HE.out
        obtain rfl := Option.some.inj (hx'.symm.trans (show l[(n : Int).toNat]? = some x from HX.out))
        have := HF2.out
        rw [show min k n = n by omega] at this
        exact this.unique hF
      rw [hq1.out, hq2.out]
      clear hq1 hq2 HF1 HF2
      go_wp2_with fail
      refine (wtop_any h4 (fun b h => by have := HB.out.size; omega) HX.out).mono ?_
      rintro e w5 ⟨⟨kt, rfl, ht1, ht2⟩, hq5⟩
      have htt : Hid (t = (kt : Int)) := by
        obtain ⟨x', hx', m, hm', ho1, ho2⟩ := HG3.out.2 HV.out
        obtain rfl := Option.some.inj (hx'.symm.trans (show l[(n : Int).toNat]? = some x from HX.out))
        have : m = kt := by
          rcases Nat.lt_trichotomy m kt with h | h | h
          · exact absurd ho1 (ht2 m h)
          · exact h
          · exact absurd ht1 (ho2 kt h)
        show t = (kt : Int)
        rw [hm', this]
      rw [htt.out]
      have HQ5 := Lib.hid hq5
      clear ht1 ht2 hq5 h4
      have hee : ((kt : Int) == kt) = true := by simp
      cases r1 with
      | none =>
        rw [show optI none = (-1 : Int) from rfl, show placeOf none = ((0 : Int), false) from rfl]
        cases r2 with
        | none =>
          rw [show optI none = (-1 : Int) from rfl, show placeOf none = ((0 : Int), false) from rfl]
          go_wp2
          go_ret
          exact ⟨rfl, HB.out.trans (HQ5.out.below _)⟩
        | some m2 =>
          rw [show optI (some m2) = (m2 : Int) from rfl, show placeOf (some m2) = ((m2 : Int), true) from rfl]
          have hm2 : max (m2 : Int) 0 = m2 := by omega
          have he2 : ((m2 : Int) == m2) = true := by simp
          go_wp2
          go_ret
          exact ⟨rfl, HB.out.trans (HQ5.out.below _)⟩
      | some m1 =>
        rw [show optI (some m1) = (m1 : Int) from rfl, show placeOf (some m1) = ((m1 : Int), true) from rfl]
        have hm1 : max (m1 : Int) 0 = m1 := by omega
        have he1 : ((m1 : Int) == m1) = true := by simp
        cases r2 with
        | none =>
          rw [show optI none = (-1 : Int) from rfl, show placeOf none = ((0 : Int), false) from rfl]
          go_wp2
          go_ret
          exact ⟨rfl, HB.out.trans (HQ5.out.below _)⟩
        | some m2 =>
          rw [show optI (some m2) = (m2 : Int) from rfl, show placeOf (some m2) = ((m2 : Int), true) from rfl]
          have hm2 : max (m2 : Int) 0 = m2 := by omega
          have he2 : ((m2 : Int) == m2) = true := by simp
          go_wp2
          go_ret
          exact ⟨rfl, HB.out.trans (HQ5.out.below _)⟩


set_option maxRecDepth 100000 in
set_option maxHeartbeats 2000000 in
theorem law_bad {w : World} {a : Option Addr} {c : Nat} {l : List Api.DMark} {i how : Int} (h : Arr (· < w.heap.size) w a l) (he : errOf l.length i how ≠ 0) :
    Calls Try.prog 7 #[.slice a l.length c, .int .i64 i, .int .i64 how] w fun e w' => e = .returned (.bool true) ∧ Below w.heap.size w w' := by
  have hm := h.small
  unfold maxLen at hm
  obtain ⟨ev, hev⟩ : ∃ ev, ev = errOf l.length i how := ⟨_, rfl⟩
  have hb0 : (ev == 0) = false := by rw [hev]; simpa using he
  have hbe : (ev == ev) = true := by simp
  have HE := Lib.hid he; have HEV := Lib.hid hev.symm
  clear he hev
  go_enter Try.func7, Try.ntmps7
  go_wp2_with fail
  refine (next_any h (fun _ h => h)).mono ?_
  rintro e w1 ⟨⟨r1, rfl, g1⟩, hb1⟩
  have HG1 := Lib.hid g1; have HB1 := Lib.hid hb1
  have h1 := h.keep (w' := w1) (keep_of_below hb1)
  have s1 := hb1.size
  clear g1 hb1 h
  go_wp2_with fail
  refine (last_any h1 (fun b h => by omega)).mono ?_
  rintro e w2 ⟨⟨r2, rfl, g2⟩, hb2⟩
  have HG2 := Lib.hid g2; have HB2 := Lib.hid (HB1.out.trans (hb2.mono s1))
  have h2 := h1.keep (w' := w2) (fun b h => hb2.block b (by omega))
  have s2 := hb2.size
  clear g2 hb2 h1
  go_wp2_with fail
  refine (top_any h2 (fun b h => by omega)).mono ?_
  rintro e w3 ⟨⟨t, rfl, g3⟩, hq3⟩
  have HG3 := Lib.hid g3; have HB3 := Lib.hid (HB2.out.trans (hq3.below _))
  have h3 := h2.keep (w' := w3) (fun b h => hq3.heap b)
  clear g3 hq3 h2
  go_wp2_with fail
  refine (werr_any h3).mono ?_
  rintro e w4 ⟨rfl, rfl⟩
  go_wp2_with fail
  refine (werr_any h3).mono ?_
  rintro e w4 ⟨rfl, rfl⟩
  have hr1 := HG1.out.1 HE.out
  have hr2 := HG2.out.1 HE.out
  subst hr1 hr2
  simp only [HEV.out]
  rw [show placeOf none = ((0 : Int), false) from rfl]
  by_cases hv : errOf l.length i 1 = 0
  · obtain ⟨e1, e2, e3, -, -⟩ := errOf_zero hv
    have HV := Lib.hid hv
    simp only [hv]
    clear hv
    obtain ⟨n, rfl⟩ : ∃ n : Nat, i = n := ⟨i.toNat, by omega⟩
    have hn : n < l.length := by omega
    obtain ⟨x, hx⟩ : ∃ x, l[n]? = some x := ⟨_, List.getElem?_eq_getElem hn⟩
    have HX := Lib.hid hx
    clear hx
    have h4 := h3
    have HB := HB3
    clear h3 e1
    go_wp2_with fail
    refine (wtop_any h4 (fun b h => by have := HB.out.size; omega) HX.out).mono ?_
    rintro e w5 ⟨⟨kt, rfl, ht1, ht2⟩, hq5⟩
    have htt : Hid (t = (kt : Int)) := by
      obtain ⟨x', hx', m, hm', ho1, ho2⟩ := HG3.out.2 HV.out
      obtain rfl := Option.some.inj (hx'.symm.trans (show l[(n : Int).toNat]? = some x from HX.out))
      have : m = kt := by
        rcases Nat.lt_trichotomy m kt with h | h | h
        · exact absurd ho1 (ht2 m h)
        · exact h
        · exact absurd ht1 (ho2 kt h)
      show t = (kt : Int)
      rw [hm', this]
    rw [htt.out]
    have HQ5 := Lib.hid hq5
    clear ht1 ht2 hq5 h4
    have hee : ((kt : Int) == kt) = true := by simp
    go_wp2
    go_ret
    exact ⟨rfl, HB.out.trans (HQ5.out.below _)⟩
  · have ht0 := HG3.out.1 hv
    subst ht0
    obtain ⟨vv, hvv⟩ : ∃ vv, vv = errOf l.length i 1 := ⟨_, rfl⟩
    have hv0 : (vv == 0) = false := by rw [hvv]; simpa using hv
    have hve : (vv == vv) = true := by simp
    simp only [← hvv]
    clear hvv hv
    go_wp2
    go_ret
    exact ⟨rfl, HB3.out⟩

set_option maxRecDepth 100000 in
theorem walkTells_walk (W : World) (args : Array Value) (h : ArgsRead Try.prog W [60, 3, 3] args.toList) :
    Calls Try.prog 7 args W fun e W' => e = .returned (.bool true) ∧ Below W.heap.size W W' := by
  obtain ⟨v0, v1, v2, rfl, r0, r1, r2⟩ := h.three
  obtain ⟨a1, l, c1, rfl, -, -, h1⟩ := r0.slice Try.underlying60 Try.opens60
  obtain ⟨i, rfl, hn⟩ := r1.int Try.underlying3
  obtain ⟨how, rfl, hw⟩ := r2.int Try.underlying3
  by_cases he : errOf l.length i how = 0
  · exact law_ok h1 he
  · exact law_bad h1 he
end Go.Proofs.Ytimlhjjdaggiiaa.walk
