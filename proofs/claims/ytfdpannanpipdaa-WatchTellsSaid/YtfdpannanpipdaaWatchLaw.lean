/- The law WatchTells, walked: the two answers are one. -/
import Derived.Test.YtfdpannanpipdaaWatchH
import Derived.Test.YtfdpannanpipdaaApp
set_option linter.unusedVariables false
set_option linter.unusedSimpArgs false
namespace Go.Proofs.Ytfdpannanpipdaa.watch
open Go.Bk Go.RowKit

theorem same_ints_at {S1 S2 : Nat → Prop} {w : World} {a1 a2 : Option Addr} {c1 c2 n1 n2 : Nat} {xs : List Int} (h1 : Arr S1 w a1 xs) (h2 : Arr S2 w a2 xs) (e1 : xs.length = n1) (e2 : xs.length = n2) :
    Calls Try.prog 20 #[.slice a1 n1 c1, .slice a2 n2 c2] w fun e w' => e = .returned (.bool true) ∧ Quiet w w' := by
  subst e1; subst e2; exact same_ints_refl h1 h2
theorem optI_max (o : Option Nat) : max (optI o) 0 = ((o.getD 0 : Nat) : Int) := by cases o <;> simp [optI] <;> omega
theorem optI_ge (o : Option Nat) : decide (0 ≤ optI o) = o.isSome := by cases o <;> simp [optI] <;> omega
/-- What has been kept of the answers, in the world at hand. -/
structure Kept (W w : World) (l : List Api.Event) (a : Option Addr) (S : Nat → Prop) (PV : Option Api.Val) (g9 : Nat) (aw : Option Addr) (PW : List Int) : Prop where
  below : Below W.heap.size W w
  arr : Arr S w a l
  inS : ∀ b, S b → b < w.heap.size
  val : Blk w g9 24 [.int .i64 (PV.getD ⟨0, 0⟩).Kind, .int .i64 (PV.getD ⟨0, 0⟩).N]
  wr : ∃ T : Nat → Prop, (∀ b, T b → b < w.heap.size) ∧ Arr T w aw PW
theorem Kept.later {W w w' : World} {l : List Api.Event} {a aw : Option Addr} {S : Nat → Prop} {PV : Option Api.Val} {g9 : Nat} {PW : List Int} (h : Kept W w l a S PV g9 aw PW) (hb : Below w.heap.size w w') : Kept W w' l a S PV g9 aw PW := by
  obtain ⟨T, h1, h2⟩ := h.wr
  exact ⟨h.below.trans (hb.mono h.below.size), h.arr.keep (fun b hb' => hb.block b (h.inS b hb')), fun b hb' => Nat.lt_of_lt_of_le (h.inS b hb') hb.size, h.val.below hb h.val.lt, T, fun b hb' => Nat.lt_of_lt_of_le (h1 b hb') hb.size, h2.keep (fun b hb' => hb.block b (h1 b hb'))⟩

set_option maxRecDepth 100000 in
set_option maxHeartbeats 4000000 in
theorem watchTells_walk (W : World) (args : Array Value) (h : ArgsRead Try.prog W [22, 3, 3, 3] args.toList) :
    Calls Try.prog 3 args W fun e W' => e = .returned (.bool true) ∧ Below W.heap.size W W' := by
  obtain ⟨v0, v1, v2, v3, rfl, r0, r1, r2, r3⟩ := h.four
  obtain ⟨a, l, c, rfl, hc, hnil, h1⟩ := r0.slice Try.underlying22 Try.opens22
  obtain ⟨p, rfl, hp⟩ := r1.int Try.underlying3
  obtain ⟨s, rfl, hs⟩ := r2.int Try.underlying3
  obtain ⟨at', rfl, hat⟩ := r3.int Try.underlying3
  clear r0 r1 r2 r3 h
  have hsm := h1.small
  obtain ⟨n, hn⟩ : ∃ n, l.length = n := ⟨_, rfl⟩
  rw [hn] at hsm hc ⊢
  unfold maxLen at hsm
  have HN := Lib.hid hn
  have HH1 := Lib.hid h1
  clear h1 hn
  obtain ⟨PV, hPV⟩ : ∃ PV, PV = progValue l p s at' := ⟨_, rfl⟩
  obtain ⟨PL, hPL⟩ : ∃ PL, PL = lastRes l p s at' := ⟨_, rfl⟩
  obtain ⟨PW, hPW⟩ : ∃ PW, PW = writesRes l p s := ⟨_, rfl⟩
  obtain ⟨PH, hPH⟩ : ∃ PH, PH = progWhole l := ⟨_, rfl⟩
  obtain ⟨E1, hE1⟩ : ∃ E1, E1 = errE n at' := ⟨_, rfl⟩
  obtain ⟨E2, hE2⟩ : ∃ E2, E2 = errE n 0 := ⟨_, rfl⟩
  go_enter Try.func3, Try.ntmps3
  go_wp2_with fail
  refine (Value_any (c := c) HN.out HH1.out (fun _ h => h) hc hat).mono ?_
  rintro e w1 ⟨rfl, hb1⟩
  rw [← hPV, ← hE1]
  have HK1 : Hid (Kept W (w1.alloc (.cells #[.int .i64 (PV.getD ⟨0, 0⟩).Kind, .int .i64 (PV.getD ⟨0, 0⟩).N] 24)) l a (· < W.heap.size) PV w1.heap.size none []) :=
    ⟨below_new hb1 _, HH1.out.keep (fun b hb => (below_new hb1 _).block b hb), fun b hb => Nat.lt_of_lt_of_le hb (below_new hb1 _).size, blk_new w1 [.int .i64 (PV.getD ⟨0, 0⟩).Kind, .int .i64 (PV.getD ⟨0, 0⟩).N] 24, fun _ => False, fun _ h => h.elim, Arr.nil _ _ _⟩
  have HPV := Lib.hid hPV; have HPL := Lib.hid hPL; have HPW := Lib.hid hPW; have HPH := Lib.hid hPH; have HE1 := Lib.hid hE1; have HE2 := Lib.hid hE2
  clear hPV hPL hPW hPH hE1 hE2 hb1
  obtain ⟨g9, hg9⟩ : ∃ g, g = w1.heap.size := ⟨_, rfl⟩
  rw [← hg9] at HK1
  go_wp2_with fail
  rw [← hg9]
  clear hg9
  refine (Last_any (c := c) HN.out HK1.out.arr HK1.out.inS hc hnil hat).mono ?_
  rintro e w2 ⟨rfl, hb2⟩
  rw [← HPL.out, ← HE1.out]
  have HK2 := Lib.hid (HK1.out.later hb2)
  clear hb2 HK1
  go_wp2_with fail
  refine (Writes_any (c := c) (p := p) (s := s) HN.out HK2.out.arr HK2.out.inS).mono ?_
  rintro e w3 ⟨aw, cw, rfl, haw, hb3⟩
  rw [← HPW.out] at haw ⊢
  rw [← HE2.out]
  have HK3 : Hid (Kept W w3 l a (· < W.heap.size) PV g9 aw PW) := by
    have h3 := HK2.out.later hb3
    exact ⟨h3.below, h3.arr, h3.inS, h3.val, _, fun b hb => hb.2, haw⟩
  clear hb3 haw HK2
  go_wp2_with fail
  refine (Whole_any (c := c) HN.out HK3.out.arr HK3.out.inS).mono ?_
  rintro e w4 ⟨rfl, hb4⟩
  rw [← HPH.out, ← HE2.out]
  have HK4 := Lib.hid (HK3.out.later hb4)
  clear hb4 HK3
  by_cases hl : 200 < n
  · have he1 : E1 = 2 := by rw [HE1.out]; unfold errE; rw [if_pos hl]
    have he2 : E2 = 2 := by rw [HE2.out]; unfold errE; rw [if_pos hl]
    have hv : PV = none := by rw [HPV.out]; unfold progValue; rw [if_neg (by rw [HN.out, ← HE1.out, he1]; decide)]
    have hv2 : PL = none := by rw [HPL.out]; unfold lastRes; rw [if_neg (by rw [HN.out, ← HE1.out, he1]; decide)]
    have hph : PH = -1 := by rw [HPH.out]; unfold progWhole; rw [if_pos (by rw [HN.out]; exact hl)]
    have hpw : PW = [] := by rw [HPW.out]; unfold writesRes; rw [if_pos (by rw [HN.out]; exact hl)]
    have HEE : Hid (∀ w, Calls Try.prog 15 #[.slice a n c, .int .i64 at'] w fun e w' => e = .returned (.int .i64 2) ∧ w = w') := fun w => by have h9 := eventErr_any w a n c at' (by omega); rw [← HE1.out, he1] at h9; exact h9
    have HEZ : Hid (∀ w, Calls Try.prog 15 #[.slice a n c, .int .i64 0] w fun e w' => e = .returned (.int .i64 2) ∧ w = w') := fun w => by have h9 := eventErr_any w a n c 0 (by omega); rw [← HE2.out, he2] at h9; exact h9
    subst he1 he2 hv hv2 hph hpw
    have HK5 := Lib.hid (HK4.out.later ((Below.refl _ _).alloc (Nat.le_refl _) (.cells #[.int .i64 0, .int .i64 0] 24)))
    obtain ⟨T, -, haw⟩ := HK5.out.wr
    have HSI0 := Lib.hid (same_ints_at (c1 := cw) (c2 := 0) (n1 := 0) (n2 := 0) haw (Arr.nil (fun _ => False) _ none) rfl rfl)
    have c0 := HK5.out.val.cell (j := 0) rfl
    have c1 := HK5.out.val.cell (j := 1) rfl
    have HBF := Lib.hid HK5.out.below
    clear haw
    simp only [Option.getD_none] at c0 c1
    go_wp2_with (first | (go_at_call 15; with_reducible refine (HEE.out _).mono ?_; rintro e w' ⟨rfl, rfl⟩) | (go_at_call 15; with_reducible refine (HEZ.out _).mono ?_; rintro e w' ⟨rfl, rfl⟩) | (go_at_call 20; with_reducible refine HSI0.out.mono ?_; rintro e w9 ⟨rfl, hq9⟩; have HQ9 := Lib.hid hq9; clear hq9))
    all_goals
      go_ret
      exact ⟨rfl, HBF.out.trans (HQ9.out.below _)⟩
  have hE2 : E2 = 0 := by rw [HE2.out]; unfold errE; rw [if_neg hl, if_neg (by omega)]
  have HPW2 : Hid (PW = writesTo l p s n) := by show _ = _; rw [HPW.out]; unfold writesRes; rw [if_neg (by rw [HN.out]; exact hl), HN.out]
  have HPH2 : Hid (PH = wholeOf l) := by show _ = _; rw [HPH.out]; unfold progWhole; rw [if_neg (by rw [HN.out]; exact hl)]
  have HEE : Hid (∀ w, Calls Try.prog 15 #[.slice a n c, .int .i64 at'] w fun e w' => e = .returned (.int .i64 E1) ∧ w = w') := fun w => by have h9 := eventErr_any w a n c at' (by omega); rw [← HE1.out] at h9; exact h9
  have HEZ : Hid (∀ w, Calls Try.prog 15 #[.slice a n c, .int .i64 0] w fun e w' => e = .returned (.int .i64 0) ∧ w = w') := fun w => by have h9 := eventErr_any w a n c 0 (by omega); rw [← HE2.out, hE2] at h9; exact h9
  subst hE2
  have hph := HPH2.out
  subst hph
  clear HPH HPH2
  by_cases he : E1 = 0
  · subst he
    have he := HE1.out.symm
    have hr : 0 ≤ at' ∧ at' ≤ n := by
      unfold errE at he
      split at he
      · cases he
      · split at he
        · cases he
        · omega
    obtain ⟨m, hm⟩ : ∃ m : Nat, at' = m := ⟨at'.toNat, by omega⟩
    subst hm
    have hmn : m ≤ n := by omega
    have HV : Hid (valueOf l p s m = PV) := by show _ = _; rw [HPV.out]; unfold progValue; rw [if_pos (by rw [HN.out]; exact he)]; simp
    have HV2 : Hid (lastW l p s m = PL) := by show _ = _; rw [HPL.out]; unfold lastRes; rw [if_pos (by rw [HN.out]; exact he)]; simp
    clear hr he
    go_wp2_with (first | (go_at_call 15; with_reducible refine (HEE.out _).mono ?_; rintro e w' ⟨rfl, rfl⟩) | (go_at_call 15; with_reducible refine (HEZ.out _).mono ?_; rintro e w' ⟨rfl, rfl⟩))
    obtain ⟨g22, hg22⟩ : ∃ g, g = w4.heap.size := ⟨_, rfl⟩
    have HV5 : Hid (Blk (w4.alloc (.cells #[.int .i64 0, .int .i64 0] 24)) g22 24 [.int .i64 0, .int .i64 0]) := by rw [hg22]; exact blk_new w4 [.int .i64 0, .int .i64 0] 24
    have HB5 : Hid (Below w4.heap.size w4 (w4.alloc (.cells #[.int .i64 0, .int .i64 0] 24))) := (Below.refl _ _).alloc (Nat.le_refl _) _
    have HK5 := Lib.hid (HK4.out.later HB5.out)
    rw [← hg22]
    have hg4 : w4.heap.size ≤ g22 := by omega
    clear hg22
    refine (watchValue_any HN.out HK5.out.arr HK5.out.inS hmn).mono ?_
    rintro e w5 ⟨rfl, hb5⟩
    rw [HV.out]
    have HBS : Hid (∀ u v, Below w4.heap.size w4 ((w5.setCell ⟨g22, 0, none⟩ u).setCell ⟨g22, 1, none⟩ v)) := fun u v => below_set (below_set (HB5.out.trans (hb5.mono HB5.out.size)) hg4 _) hg4 _
    have HV6 := Lib.hid (HV5.out.below hb5 HV5.out.lt)
    have c0 := HV6.out.cell (j := 0) rfl
    have c1 := HV6.out.cell (j := 1) rfl
    have f0 := HV6.out.frozen 0
    have f1 := HV6.out.frozen 1
    clear hb5 HK5 HV5 HB5
    go_wp2_with fail
    obtain ⟨w6, hw6⟩ : ∃ w6, w6 = (w5.setCell ⟨g22, 0, none⟩ (.int .i64 (PV.getD ⟨0, 0⟩).Kind)).setCell ⟨g22, 1, none⟩ (.int .i64 (PV.getD ⟨0, 0⟩).N) := ⟨_, rfl⟩
    have HK6 : Hid (Kept W w6 l a (· < W.heap.size) PV g9 aw PW) := by rw [hw6]; exact HK4.out.later (HBS.out _ _)
    have HV7 : Hid (Blk w6 g22 24 [.int .i64 (PV.getD ⟨0, 0⟩).Kind, .int .i64 (PV.getD ⟨0, 0⟩).N]) := by rw [hw6]; exact (HV6.out.set 0 _).set 1 _
    rw [← hw6]
    clear hw6 c0 c1 f0 f1 HV6 HBS
    refine (watchLast_any HN.out HK6.out.arr HK6.out.inS hmn).mono ?_
    rintro e w7 ⟨rfl, hb7⟩
    rw [HV2.out]
    have HK7 := Lib.hid (HK6.out.later hb7)
    have HV8 := Lib.hid (HV7.out.below hb7 HV7.out.lt)
    clear hb7 HK6 HV7
    go_wp2_with fail
    refine (watchWhole_any HN.out HK7.out.arr HK7.out.inS).mono ?_
    rintro e w8 ⟨rfl, hb8⟩
    have HK6 := Lib.hid (HK7.out.later hb8)
    have HV6 := Lib.hid (HV8.out.below hb8 HV8.out.lt)
    clear hb8 HK7 HV8
    go_wp2_with fail
    have HB22 := Lib.hid HK6.out.below
    have hsz6 := HK6.out.below.size
    obtain ⟨wl, hwl⟩ : ∃ wl, wl = w8 := ⟨_, rfl⟩
    rw [← hwl] at HK6 HV6 HB22 hsz6 ⊢
    clear hwl
    go_loopw [26, 27] (fun v i w' => ∃ k : Nat, k ≤ n ∧ i = .int .i64 k ∧ Go.Bk.Own (fun _ => False) w' wl.heap.size 3 v (writesTo l p s k) ∧ Below wl.heap.size wl w') (fun _ i _ => n - (intOf i).toNat)
    case atStart => exact ⟨0, Nat.zero_le _, rfl, Go.Bk.Own.nil _ _ _ _, Below.refl _ _⟩
    case round =>
      obtain ⟨k, hk, rfl, hown, hbl⟩ := hrel
      have HO := Lib.hid hown; have HBL := Lib.hid hbl
      have hbs := hbl.size
      have hlen := writesTo_len l p s k
      have HKR := Lib.hid (HK6.out.later hbl)
      have HVR : Hid (Blk wr g22 24 [.int .i64 (PV.getD ⟨0, 0⟩).Kind, .int .i64 (PV.getD ⟨0, 0⟩).N]) := HV6.out.below hbl HV6.out.lt
      clear hown hbl
      by_cases hlt : k < n
      · obtain ⟨x, hx⟩ : ∃ x, l[k]? = some x := ⟨_, List.getElem?_eq_getElem (by have := HN.out; omega)⟩
        have HWS := Lib.hid (writesTo_succ hx p s)
        obtain ⟨b1, o1, rfl, -, q0, q1, q2, q3, q4, q5, q6, q7, q8, q9, q10, q11, -⟩ := api_Event_elem HKR.out.arr hx
        clear hx
        have i9 : I64 (k : Int) := by unfold I64; omega
        have hcell : ∀ w0 : World, Rep.cells (α := Int) (fun _ => False) w0 [.int .i64 (k : Int)] (k : Int) := fun _ => ⟨rfl, i9⟩
        have HCW : Hid (∀ w, Calls Try.prog 19 #[evV x, .int .i64 4, .int .i64 p, .int .i64 s] w fun e w' => e = .returned (.bool (isAt x 4 p s)) ∧ Below w.heap.size w w') := fun w => isAt_any w x 4 p s
        have HOB : Hid (∀ w1, Below wr.heap.size wr w1 → Below wl.heap.size wl w1 ∧ Go.Bk.Own (fun _ => False) w1 wl.heap.size 3 _ (writesTo l p s k) ∧ wl.heap.size ≤ w1.heap.size) := fun w1 hb' => ⟨HBL.out.trans (hb'.mono hbs), HO.out.below hb' (fun _ h => h.elim), Nat.le_trans hbs hb'.size⟩
        cases hi : isAt x 4 p s with
        | true =>
          have HI : Hid (writesTo l p s (k + 1) = writesTo l p s k ++ [(k : Int)]) := by show _ = _; rw [HWS.out, hi]; rfl
          rw [hi] at HCW
          clear hi
          go_wp2_with (first
            | (go_at_call 19; with_reducible refine (HCW.out _).mono ?_; rintro e w9 ⟨rfl, hb'⟩; obtain ⟨hb1, ho1, hs1⟩ := HOB.out _ hb'; have HB1 := Lib.hid hb1; have HO1 := Lib.hid ho1; clear hb' hb1 ho1)
            | ((at_builtin; with_reducible refine Try.wp_app30 rfl rfl rfl rfl rfl (by first | rfl | simp) (HO1.out) (hcell _) (fun _ h => h.elim) (by omega) (by first | omega | (simp; omega)) fun v' w' hown' hg' => ?_); have HO2 := Lib.hid hown'; have HB2 := Lib.hid (HB1.out.grown hg' hs1 (fun r hr => (HO1.out.lt r hr).1)); clear hown' hg'))
          go_roundw
          case rel => exact ⟨k + 1, by omega, by go_num, by rw [HI.out]; exact HO2.out, HB2.out⟩
          case measure => simp [intOf]; omega
        | false =>
          have HI : Hid (writesTo l p s (k + 1) = writesTo l p s k) := by show _ = _; rw [HWS.out, hi]; rfl
          rw [hi] at HCW
          clear hi
          go_wp2_with (go_at_call 19; with_reducible refine (HCW.out _).mono ?_; rintro e w9 ⟨rfl, hb'⟩; obtain ⟨hb1, ho1, hs1⟩ := HOB.out _ hb'; have HB1 := Lib.hid hb1; have HO1 := Lib.hid ho1; clear hb' hb1 ho1)
          go_roundw
          case rel => exact ⟨k + 1, by omega, by go_num, by rw [HI.out]; exact HO1.out, HB1.out⟩
          case measure => simp [intOf]; omega
      · obtain rfl : k = n := by omega
        obtain ⟨a9, c9, rfl, -, -, hw9⟩ := HO.out.arr
        rw [← HPW2.out] at hw9 ⊢
        obtain ⟨T, -, haw⟩ := HKR.out.wr
        have HSI0 := Lib.hid (same_ints_at (c1 := cw) (c2 := c9) haw hw9 rfl rfl)
        have c0 := HKR.out.val.cell (j := 0) rfl
        have c1 := HKR.out.val.cell (j := 1) rfl
        have d0 := HVR.out.cell (j := 0) rfl
        have d1 := HVR.out.cell (j := 1) rfl
        have HBF := Lib.hid HKR.out.below
        clear haw hw9

        rcases PV with _ | v <;> rcases PL with _ | j
        all_goals
          simp only [Option.getD_some, Option.getD_none] at c0 c1 d0 d1
          go_wp2_with (go_at_call 20; with_reducible refine HSI0.out.mono ?_; rintro e w9 ⟨rfl, hq9⟩; have HQ9 := Lib.hid hq9; clear hq9)
          all_goals
            first
            | (go_ret; exact ⟨rfl, HBF.out.trans (HQ9.out.below _)⟩)
  · have g1 : (E1 == 0) = false := by simpa using he
    have hv : PV = none := by rw [HPV.out]; unfold progValue; rw [if_neg (by rw [HN.out, ← HE1.out]; exact he)]
    have hv2 : PL = none := by rw [HPL.out]; unfold lastRes; rw [if_neg (by rw [HN.out, ← HE1.out]; exact he)]
    subst hv
    subst hv2
    clear he
    go_wp2_with (first | (go_at_call 15; with_reducible refine (HEE.out _).mono ?_; rintro e w' ⟨rfl, rfl⟩) | (go_at_call 15; with_reducible refine (HEZ.out _).mono ?_; rintro e w' ⟨rfl, rfl⟩))
    obtain ⟨g22, hg22⟩ : ∃ g, g = w4.heap.size := ⟨_, rfl⟩
    have HV5 : Hid (Blk (w4.alloc (.cells #[.int .i64 0, .int .i64 0] 24)) g22 24 [.int .i64 0, .int .i64 0]) := by rw [hg22]; exact blk_new w4 [.int .i64 0, .int .i64 0] 24
    have HK5 := Lib.hid (HK4.out.later ((Below.refl _ _).alloc (Nat.le_refl _) (.cells #[.int .i64 0, .int .i64 0] 24)))
    rw [← hg22]
    clear hg22
    refine (watchWhole_any HN.out HK5.out.arr HK5.out.inS).mono ?_
    rintro e w6 ⟨rfl, hb6⟩
    have HK6 := Lib.hid (HK5.out.later hb6)
    have HV6 : Hid (Blk w6 g22 24 [.int .i64 ((none : Option Api.Val).getD ⟨0, 0⟩).Kind, .int .i64 ((none : Option Api.Val).getD ⟨0, 0⟩).N]) := HV5.out.below hb6 HV5.out.lt
    clear hb6 HK5 HV5
    go_wp2_with fail
    have HB22 := Lib.hid HK6.out.below
    have hsz6 := HK6.out.below.size
    obtain ⟨wl, hwl⟩ : ∃ wl, wl = w6 := ⟨_, rfl⟩
    rw [← hwl] at HK6 HV6 HB22 hsz6 ⊢
    clear hwl
    go_loopw [26, 27] (fun v i w' => ∃ k : Nat, k ≤ n ∧ i = .int .i64 k ∧ Go.Bk.Own (fun _ => False) w' wl.heap.size 3 v (writesTo l p s k) ∧ Below wl.heap.size wl w') (fun _ i _ => n - (intOf i).toNat)
    case atStart => exact ⟨0, Nat.zero_le _, rfl, Go.Bk.Own.nil _ _ _ _, Below.refl _ _⟩
    case round =>
      obtain ⟨k, hk, rfl, hown, hbl⟩ := hrel
      have HO := Lib.hid hown; have HBL := Lib.hid hbl
      have hbs := hbl.size
      have hlen := writesTo_len l p s k
      have HKR := Lib.hid (HK6.out.later hbl)
      have HVR : Hid (Blk wr g22 24 [.int .i64 ((none : Option Api.Val).getD ⟨0, 0⟩).Kind, .int .i64 ((none : Option Api.Val).getD ⟨0, 0⟩).N]) := HV6.out.below hbl HV6.out.lt
      clear hown hbl
      by_cases hlt : k < n
      · obtain ⟨x, hx⟩ : ∃ x, l[k]? = some x := ⟨_, List.getElem?_eq_getElem (by have := HN.out; omega)⟩
        have HWS := Lib.hid (writesTo_succ hx p s)
        obtain ⟨b1, o1, rfl, -, q0, q1, q2, q3, q4, q5, q6, q7, q8, q9, q10, q11, -⟩ := api_Event_elem HKR.out.arr hx
        clear hx
        have i9 : I64 (k : Int) := by unfold I64; omega
        have hcell : ∀ w0 : World, Rep.cells (α := Int) (fun _ => False) w0 [.int .i64 (k : Int)] (k : Int) := fun _ => ⟨rfl, i9⟩
        have HCW : Hid (∀ w, Calls Try.prog 19 #[evV x, .int .i64 4, .int .i64 p, .int .i64 s] w fun e w' => e = .returned (.bool (isAt x 4 p s)) ∧ Below w.heap.size w w') := fun w => isAt_any w x 4 p s
        have HOB : Hid (∀ w1, Below wr.heap.size wr w1 → Below wl.heap.size wl w1 ∧ Go.Bk.Own (fun _ => False) w1 wl.heap.size 3 _ (writesTo l p s k) ∧ wl.heap.size ≤ w1.heap.size) := fun w1 hb' => ⟨HBL.out.trans (hb'.mono hbs), HO.out.below hb' (fun _ h => h.elim), Nat.le_trans hbs hb'.size⟩
        cases hi : isAt x 4 p s with
        | true =>
          have HI : Hid (writesTo l p s (k + 1) = writesTo l p s k ++ [(k : Int)]) := by show _ = _; rw [HWS.out, hi]; rfl
          rw [hi] at HCW
          clear hi
          go_wp2_with (first
            | (go_at_call 19; with_reducible refine (HCW.out _).mono ?_; rintro e w9 ⟨rfl, hb'⟩; obtain ⟨hb1, ho1, hs1⟩ := HOB.out _ hb'; have HB1 := Lib.hid hb1; have HO1 := Lib.hid ho1; clear hb' hb1 ho1)
            | ((at_builtin; with_reducible refine Try.wp_app30 rfl rfl rfl rfl rfl (by first | rfl | simp) (HO1.out) (hcell _) (fun _ h => h.elim) (by omega) (by first | omega | (simp; omega)) fun v' w' hown' hg' => ?_); have HO2 := Lib.hid hown'; have HB2 := Lib.hid (HB1.out.grown hg' hs1 (fun r hr => (HO1.out.lt r hr).1)); clear hown' hg'))
          go_roundw
          case rel => exact ⟨k + 1, by omega, by go_num, by rw [HI.out]; exact HO2.out, HB2.out⟩
          case measure => simp [intOf]; omega
        | false =>
          have HI : Hid (writesTo l p s (k + 1) = writesTo l p s k) := by show _ = _; rw [HWS.out, hi]; rfl
          rw [hi] at HCW
          clear hi
          go_wp2_with (go_at_call 19; with_reducible refine (HCW.out _).mono ?_; rintro e w9 ⟨rfl, hb'⟩; obtain ⟨hb1, ho1, hs1⟩ := HOB.out _ hb'; have HB1 := Lib.hid hb1; have HO1 := Lib.hid ho1; clear hb' hb1 ho1)
          go_roundw
          case rel => exact ⟨k + 1, by omega, by go_num, by rw [HI.out]; exact HO1.out, HB1.out⟩
          case measure => simp [intOf]; omega
      · obtain rfl : k = n := by omega
        obtain ⟨a9, c9, rfl, -, -, hw9⟩ := HO.out.arr
        rw [← HPW2.out] at hw9 ⊢
        obtain ⟨T, -, haw⟩ := HKR.out.wr
        have HSI0 := Lib.hid (same_ints_at (c1 := cw) (c2 := c9) haw hw9 rfl rfl)
        have c0 := HKR.out.val.cell (j := 0) rfl
        have c1 := HKR.out.val.cell (j := 1) rfl
        have d0 := HVR.out.cell (j := 0) rfl
        have d1 := HVR.out.cell (j := 1) rfl
        have HBF := Lib.hid HKR.out.below
        clear haw hw9

        go_wp2_with (go_at_call 20; with_reducible refine HSI0.out.mono ?_; rintro e w9 ⟨rfl, hq9⟩; have HQ9 := Lib.hid hq9; clear hq9)
        all_goals
          go_ret
          exact ⟨rfl, HBF.out.trans (HQ9.out.below _)⟩
end Go.Proofs.Ytfdpannanpipdaa.watch
