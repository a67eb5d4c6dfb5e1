/- PagesTells: the document's SameRows, SameStore at what is one: walked. -/
import Derived.Test.YtjlnaiiajlahgaaPagI
set_option linter.unusedVariables false
set_option linter.unusedSimpArgs false
namespace Go.Proofs.Ytjlnaiiajlahgaa.pag
open Go.Bk Go.RowKit

set_option maxRecDepth 100000 in
theorem rows_true {S1 S2 : Nat → Prop} {w : World} {a1 a2 : Option Addr} {c1 c2 n : Nat} {xs : List (List Int)} (hn : xs.length = n) (h1 : Arr S1 w a1 xs) (h2 : Arr S2 w a2 xs) :
    Calls Try.prog 43 #[.slice a1 n c1, .slice a2 n c2] w fun e w' => e = .returned (.bool true) ∧ Quiet w w' := by
  have hm1 := h1.small
  rw [hn] at hm1
  unfold maxLen at hm1
  have H1 := Lib.hid hn
  clear hn
  have hb : ((n : Int) != (n : Int)) = false := by simp
  have HA1 : Hid (∀ w', Quiet w w' → Arr S1 w' a1 xs ∧ Arr S2 w' a2 xs) := fun w' hq => ⟨h1.keep (fun b _ => hq.heap b), h2.keep (fun b _ => hq.heap b)⟩
  clear h1 h2
  go_enter Try.func43, Try.ntmps43
  go_wp2_with fail
  go_loopw [5] (fun v w' => ∃ k : Nat, k ≤ n ∧ v = .int .i64 k ∧ Quiet w w') (fun i _ => n - (intOf i).toNat)
  case atStart => exact ⟨0, Nat.zero_le _, rfl, Quiet.refl _⟩
  case round =>
  obtain ⟨k, hk, rfl, hq⟩ := hrel
  have HQ := Lib.hid hq
  by_cases hkn : k < n
  case neg =>
    clear hq
    go_wp2_with fail
    go_ret
    exact ⟨rfl, HQ.out⟩
  case pos =>
  obtain ⟨k1, k2⟩ := HA1.out _ hq
  obtain ⟨r, hr⟩ : ∃ r, xs[k]? = some r := ⟨_, List.getElem?_eq_getElem (by rw [H1.out]; exact hkn)⟩
  obtain ⟨b1, o1, x1, y1, rfl, -, p1, -, -, q1⟩ := row_elem k1 hr
  obtain ⟨b2, o2, x2, y2, rfl, -, p2, -, -, q2⟩ := row_elem k2 hr
  have HS : Hid (∀ m, Calls Try.prog 42 #[.slice x1 r.length y1, .slice x2 r.length y2] (wr.drewN m) fun e w' => e = .returned (.bool true) ∧ Quiet (wr.drewN m) w') := fun m => by
    have := same_ints_any (c1 := y1) (c2 := y2) (Arr.keep (w := wr) (w' := wr.drewN m) (fun b _ => rfl) q1) (Arr.keep (w := wr) (w' := wr.drewN m) (fun b _ => rfl) q2)
    rw [decide_eq_true rfl] at this
    exact this
  obtain ⟨m, hm⟩ : ∃ m, m = r.length := ⟨_, rfl⟩
  rw [← hm] at p1 p2 HS
  clear hr hm q1 q2 k1 k2 hq
  go_wp2_with fail
  first | (refine wp_region_quiet_lit (by kernel_rfl) (by kernel_rfl) ?_; (repeat (go_big_quiet_step ((go_at_call 42; exact quiet_of (HS.out _))))); refine wpQuiet_nil ?_; intro _ hw'; obtain ⟨nq, hw''⟩ := hw'; subst hw'')
  go_wp2_with fail
  go_roundw
  case rel => exact ⟨k + 1, by omega, by go_num, HQ.out.more _⟩
  case measure => simp [intOf]; omega
set_option maxRecDepth 100000 in
set_option maxHeartbeats 1000000 in
theorem store_true {S S2 : Nat → Prop} {w : World} {aP aU aR bP bU bR : Option Addr} {nP nU nR cP cU cR dP dU dR : Nat} {s : Store} (h : StAt S w aP aU aR nP nU nR s) (h2 : StAt S2 w bP bU bR nP nU nR s) (hS : ∀ b, S b → b < w.heap.size) (hS2 : ∀ b, S2 b → b < w.heap.size) :
    Calls Try.prog 17 #[stV aP aU aR nP nU nR cP cU cR, stV bP bU bR nP nU nR dP dU dR] w fun e w' => e = .returned (.bool true) ∧ RowKit.Below w.heap.size w w' := by
  have hsP := h.pages.small
  rw [h.lenP] at hsP
  unfold maxLen at hsP
  have HLP := Lib.hid h.lenP
  have HB0 : Hid (RowKit.Below w.heap.size w ((w.alloc (.cells #[.slice aP nP cP, .slice aU nU cU, .slice aR nR cR] 26)).alloc (.cells #[.slice bP nP dP, .slice bU nU dU, .slice bR nR dR] 26))) := ((RowKit.Below.refl _ _).alloc (Nat.le_refl _) _).alloc (by simp) _
  have hsz : (w.alloc (.cells #[.slice aP nP cP, .slice aU nU cU, .slice aR nR cR] 26)).heap.size = w.heap.size + 1 := by simp
  have hb1 := (blk_new w [.slice aP nP cP, .slice aU nU cU, .slice aR nR cR] 26).keep (Below.heap_alloc (w.alloc (.cells #[.slice aP nP cP, .slice aU nU cU, .slice aR nR cR] 26)) (.cells #[.slice bP nP dP, .slice bU nU dU, .slice bR nR dR] 26) w.heap.size (by simp))
  have hb2 := blk_new (w.alloc (.cells #[.slice aP nP cP, .slice aU nU cU, .slice aR nR cR] 26)) [.slice bP nP dP, .slice bU nU dU, .slice bR nR dR] 26
  rw [hsz] at hb2
  have HS1 := Lib.hid (h.below hS HB0.out)
  have HS2 := Lib.hid (h2.below hS2 HB0.out)
  have d0 : ((nP : Int) != (nP : Int)) = false := by simp
  clear h h2 hsz
  go_enter Try.func17, Try.ntmps17
  go_upto_region 1 with fail
  generalize (w.alloc (.cells #[.slice aP nP cP, .slice aU nU cU, .slice aR nR cR] 26)).alloc (.cells #[.slice bP nP dP, .slice bU nU dU, .slice bR nR dR] 26) = w1 at *
  have HX : Hid (∀ w', Quiet w1 w' → (w'.cell? ⟨w.heap.size, 0, none⟩ = some (.slice aP nP cP) ∧ w'.cell? ⟨w.heap.size, 1, none⟩ = some (.slice aU nU cU) ∧ w'.cell? ⟨w.heap.size, 2, none⟩ = some (.slice aR nR cR)) ∧ (w'.cell? ⟨w.heap.size + 1, 0, none⟩ = some (.slice bP nP dP) ∧ w'.cell? ⟨w.heap.size + 1, 1, none⟩ = some (.slice bU nU dU) ∧ w'.cell? ⟨w.heap.size + 1, 2, none⟩ = some (.slice bR nR dR)) ∧ StAt S w' aP aU aR nP nU nR s ∧ StAt S2 w' bP bU bR nP nU nR s) := fun w' hq =>
    ⟨⟨(hq.cell _).trans (hb1.cell (j := 0) rfl), (hq.cell _).trans (hb1.cell (j := 1) rfl), (hq.cell _).trans (hb1.cell (j := 2) rfl)⟩, ⟨(hq.cell _).trans (hb2.cell (j := 0) rfl), (hq.cell _).trans (hb2.cell (j := 1) rfl), (hq.cell _).trans (hb2.cell (j := 2) rfl)⟩, HS1.out.keep (fun b _ => hq.heap b), HS2.out.keep (fun b _ => hq.heap b)⟩
  have HI : Hid (Calls Try.prog 42 #[.slice aU nU cU, .slice bU nU dU] w1 fun e w' => e = .returned (.bool true) ∧ Quiet w1 w') := by
    have := same_ints_any (c1 := cU) (c2 := dU) HS1.out.uses HS2.out.uses
    rw [decide_eq_true rfl, HS1.out.lenU] at this
    exact this
  have HR : Hid (∀ w', Quiet w1 w' → Calls Try.prog 43 #[.slice aR nR cR, .slice bR nR dR] w' fun e w'' => e = .returned (.bool true) ∧ Quiet w' w'') := fun w' hq => by
    obtain ⟨-, -, k1, k2⟩ := HX.out w' hq
    exact rows_true k1.lenR k1.roots k2.roots
  obtain ⟨⟨x0, x1, x2⟩, ⟨y0, y1, y2⟩, -⟩ := HX.out w1 (Quiet.refl _)
  clear hb1 hb2
  go_wp2_with (first
    | (go_at_call 42; (with_reducible refine HI.out.mono ?_); rintro e w2 ⟨rfl, hq2⟩; have HQ2 := Lib.hid hq2; (obtain ⟨⟨u0, u1, u2⟩, ⟨v0, v1, v2⟩, -⟩ := HX.out w2 hq2); clear hq2)
    | (go_at_call 43; (with_reducible refine (HR.out _ HQ2.out).mono ?_); rintro e w3 ⟨rfl, hq3⟩; have HQ3 := Lib.hid (HQ2.out.trans hq3); clear hq3))
  clear u0 u1 u2 v0 v1 v2 x0 x1 x2 y0 y1 y2
  go_loopw [5] (fun v w' => ∃ k : Nat, k ≤ nP ∧ v = .int .i64 k ∧ Quiet w1 w') (fun i _ => nP - (intOf i).toNat)
  case atStart => exact ⟨0, Nat.zero_le _, rfl, HQ3.out⟩
  case round =>
  obtain ⟨k, hk, rfl, hq⟩ := hrel
  have HQ := Lib.hid hq
  obtain ⟨⟨x0, x1, x2⟩, ⟨y0, y1, y2⟩, k1, k2⟩ := HX.out _ hq
  by_cases hkn : k < nP
  case neg =>
    clear hq k1 k2
    go_wp2_with fail
    go_ret
    exact ⟨rfl, HB0.out.trans ((HQ.out.below w1.heap.size).mono HB0.out.size)⟩
  case pos =>
  obtain ⟨x, hx⟩ : ∃ x, s.pages[k]? = some x := ⟨_, List.getElem?_eq_getElem (by rw [HLP.out]; exact hkn)⟩
  obtain ⟨z0, z1, z2, z3⟩ := x
  obtain ⟨b1, o1, rfl, -, p0, p1, p2, p3, -⟩ := int4_elem k1.pages hx
  obtain ⟨b2, o2, rfl, -, q0, q1, q2, q3, -⟩ := int4_elem k2.pages hx
  dsimp only at p0 p1 p2 p3 q0 q1 q2 q3
  have heq4 := run_neq4
  have h4 : same4 (z0, z1, z2, z3) (z0, z1, z2, z3) = true := by rw [same4_eq]; exact decide_eq_true rfl
  clear hx k1 k2 hq
  go_wp2_with fail
  go_quiet (fail)
  go_wp2_with fail
  go_roundw
  case rel => exact ⟨k + 1, by omega, by go_num, HQ.out.more _⟩
  case measure => simp [intOf]; omega
end Go.Proofs.Ytjlnaiiajlahgaa.pag
