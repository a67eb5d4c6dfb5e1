/- The document's: are two exits the same: walked. -/
import Derived.Test.YtekofpigmggbbaaDoorQChkD
import Derived.Deep.QuietTactic
import Derived.Test.YtekofpigmggbbaaDoorQChkPlain
set_option linter.unusedVariables false
set_option linter.unusedSimpArgs false
namespace Go.Proofs.YtekofpigmggbbaaDoor.chk
open Go.Bk Go.RowKit Go.Proofs.YtekofpigmggbbaaDoor.ir
def SameG {α : Type} (xs ys : List α) (k : Nat) : Prop := ∀ i, i < k → xs[i]? = ys[i]?
theorem SameG.succ {α : Type} {xs ys : List α} {k : Nat} (h : SameG xs ys k) (he : xs[k]? = ys[k]?) : SameG xs ys (k + 1) := fun i hi => by
 by_cases e : i = k
 · rw [e]; exact he
 · exact h i (by omega)
theorem SameG.all {α : Type} {xs ys : List α} {k : Nat} (h : SameG xs ys k) (h1 : xs.length = k) (h2 : ys.length = k) : xs = ys := List.ext_getElem? fun i => by
 by_cases hi : i < k
 · exact h i hi
 · rw [List.getElem?_eq_none (by omega), List.getElem?_eq_none (by omega)]
theorem get_at' {α : Type} {l : List α} {n k : Nat} (hn : l.length = n) (h : k < n) : ∃ x, l[k]? = some x := ⟨_, List.getElem?_eq_getElem (by omega)⟩
theorem ne_at {α : Type} {xs ys : List α} {k : Nat} {x y : α} (hx : xs[k]? = some x) (hy : ys[k]? = some y) (h : ¬ x = y) : ¬ xs = ys := fun e => by rw [e, hy] at hx; exact h (Option.some.inj hx).symm
set_option maxRecDepth 100000 in
theorem eqSet_any {S1 S2 : Nat → Prop} {w : World} {a1 a2 : Option Addr} {c1 c2 n1 n2 : Nat} {xs ys : List Api.TSet} (hn1 : xs.length = n1) (hn2 : ys.length = n2) (h1 : Arr S1 w a1 xs) (h2 : Arr S2 w a2 ys) (hS1 : ∀ b, S1 b → b < w.heap.size) (hS2 : ∀ b, S2 b → b < w.heap.size) :
 Calls Tryd.prog 121 #[.slice a1 n1 c1, .slice a2 n2 c2] w fun e w' => e = .returned (.bool (decide (xs = ys))) ∧ Below w.heap.size w w' := by
 have hm1 := h1.small; have hm2 := h2.small
 rw [hn1] at hm1; rw [hn2] at hm2
 unfold maxLen at hm1 hm2
 have H1 := Lib.hid hn1; have H2 := Lib.hid hn2
 have HA1 := Lib.hid h1; have HA2 := Lib.hid h2; have HS1 := Lib.hid hS1; have HS2 := Lib.hid hS2
 have HRF : Hid (Below w.heap.size w w) := Below.refl _ _
 clear hn1 hn2 h1 h2 hS1 hS2
 by_cases hl : n1 = n2
 · subst hl
   have hb : ((n1 : Int) != (n1 : Int)) = false := by simp
   go_enter Tryd.func121, Tryd.ntmps121
   go_wp2_with fail
   go_loopw [14] (fun i w' => ∃ k : Nat, k ≤ n1 ∧ i = .int .i64 k ∧ SameG xs ys k ∧ Below w.heap.size w w') (fun i _ => n1 - (intOf i).toNat)
   case atStart => exact ⟨0, Nat.zero_le _, rfl, fun i hi => by omega, HRF.out⟩
   case round =>
    obtain ⟨k, hk, rfl, hsm, hbr⟩ := hrel
    have HB := Lib.hid hsm; have HBR := Lib.hid hbr
    clear hsm
    by_cases hlt : k < n1
    · obtain ⟨x, hx⟩ := get_at' H1.out hlt
      obtain ⟨y, hy⟩ := get_at' H2.out hlt
      obtain ⟨b1, o1, rfl, hs1, p0, p1, -⟩ := api_TSet_elem (HA1.out.keep (w' := wr) fun b hb => hbr.block b (HS1.out b hb)) hx
      obtain ⟨w5, hw5⟩ : ∃ w5, w5 = wr.alloc (.cells #[.int .i64 x.Reg, .int .i64 x.Val] 98) := ⟨_, rfl⟩
      have hb5 : Below wr.heap.size wr w5 := by rw [hw5]; exact cod.below_al2 _
      have HB5 : Hid (Below w.heap.size w w5) := hbr.trans (hb5.mono hbr.size)
      have hrow := row_new wr #[.int .i64 x.Reg, .int .i64 x.Val] 98
      rw [← hw5] at hrow
      obtain ⟨b2, o2, rfl, hs2, q0, q1, -⟩ := api_TSet_elem (HA2.out.keep (w' := w5) fun b hb => HB5.out.block b (HS2.out b hb)) hy
      have hlb1 : b1 < wr.heap.size := Nat.lt_of_lt_of_le (HS1.out b1 hs1) hbr.size
      have z0 := hrow.cell (j := 0) rfl; have z1 := hrow.cell (j := 1) rfl
      have lS := hrow.lt
      have hlb2 : b2 < w5.heap.size := Nat.lt_of_lt_of_le (HS2.out b2 hs2) HB5.out.size
      have HX := Lib.hid hx; have HY := Lib.hid hy
      clear hx hy hbr hb5 hrow hs1 hs2
      go_upto_region 6 with fail
      rw [← hw5]
      clear hw5 p0 p1
      by_cases he : x = y
      · subst he
        have hee1 : (x.Reg == x.Reg) = true := by simp
        have hee2 : (x.Val == x.Val) = true := by simp
        go_quiet (fail)
        go_wp2
        go_roundw
        case rel => exact ⟨k + 1, by omega, by go_num, HB.out.succ (HX.out.trans HY.out.symm), HB5.out.trans (((Quiet.refl _).more _).below _)⟩
        case measure => simp [intOf]; omega
      · have hee3 : (x.Reg == y.Reg) = false ∨ ((x.Reg == y.Reg) = true ∧ (x.Val == y.Val) = false) := by
         obtain ⟨r1, t1⟩ := x
         obtain ⟨r2, t2⟩ := y
         by_cases h1 : r1 = r2 <;> by_cases h2 : t1 = t2 <;> simp_all
        have HNE : Hid (decide (xs = ys) = false) := decide_eq_false (ne_at HX.out HY.out he)
        clear he
        rcases hee3 with d1 | ⟨d1, d2⟩
        all_goals
         go_quiet (fail)
         go_wp2
         go_ret
         exact ⟨by rw [HNE.out]; rfl, HB5.out.trans (((Quiet.refl _).more _).below _)⟩
    · have heq : xs = ys := by
       obtain rfl : k = n1 := by omega
       exact HB.out.all H1.out H2.out
      have HEQ : Hid (decide (xs = ys) = true) := decide_eq_true heq
      clear hbr heq
      go_wp2
      go_ret
      exact ⟨by rw [HEQ.out]; rfl, HBR.out⟩
 · have hb : ((n1 : Int) != (n2 : Int)) = true := by simp; omega
   have HL := Lib.hid hl
   clear hl
   go_enter Tryd.func121, Tryd.ntmps121
   go_wp2
   go_ret
   have hne : xs ≠ ys := fun e => HL.out (by rw [← H1.out, ← H2.out, e])
   exact ⟨by simp [hne], HRF.out⟩
set_option maxRecDepth 100000 in
theorem sameMake_any {S1 S2 : Nat → Prop} {w : World} {x y : Api.TMake} {a1 a2 : Option Addr} {n1 n2 c1 c2 : Nat} (hn1 : x.Vals.length = n1) (hn2 : y.Vals.length = n2) (h1 : Arr S1 w a1 x.Vals) (h2 : Arr S2 w a2 y.Vals) (hS1 : ∀ b, S1 b → b < w.heap.size) (hS2 : ∀ b, S2 b → b < w.heap.size) :
 Calls Tryd.prog 122 #[.agg #[.int .i64 x.Cell, .int .i64 x.Kind, .int .i64 x.Num, .slice a1 n1 c1], .agg #[.int .i64 y.Cell, .int .i64 y.Kind, .int .i64 y.Num, .slice a2 n2 c2]] w fun e w' => e = .returned (.bool (decide (x = y))) ∧ Below w.heap.size w w' := by
 obtain ⟨xc, xk, xn, xv⟩ := x
 obtain ⟨yc, yk, yn, yv⟩ := y
 dsimp only at hn1 hn2 h1 h2 ⊢
 have HE : Hid (decide ((⟨xc, xk, xn, xv⟩ : Api.TMake) = ⟨yc, yk, yn, yv⟩) = ((xc == yc) && ((xk == yk) && ((xn == yn) && decide (xv = yv))))) := by
  show _ = _
  rw [Bool.eq_iff_iff]
  simp
 have HEQ : Hid (∀ W, Below w.heap.size w W → Calls Tryd.prog 27 #[.slice a1 n1 c1, .slice a2 n2 c2] W fun e w' => e = .returned (.bool (decide (xv = yv))) ∧ Below w.heap.size w w') := fun W hb => by
  have k := eq_any (c1 := c1) (c2 := c2) (h1.keep (w' := W) fun b hb' => hb.block b (hS1 b hb')) (h2.keep (w' := W) fun b hb' => hb.block b (hS2 b hb'))
  rw [hn1, hn2] at k
  exact k.mono fun e w' ⟨he, hq⟩ => ⟨he, hb.trans (hq.below _)⟩
 have HAL : Hid (∀ o1 o2, Below w.heap.size w ((w.alloc o1).alloc o2)) := fun o1 o2 => ((Below.refl _ _).alloc (Nat.le_refl _) _).alloc (by simp) _
 clear h1 h2 hn1 hn2 hS1 hS2
 obtain ⟨v, hv⟩ : ∃ v, v = decide (xv = yv) := ⟨_, rfl⟩
 rw [← hv] at HE HEQ
 clear hv
 rcases four (xc == yc) (xk == yk) (xn == yn) true with e1 | ⟨e1, e2⟩ | ⟨e1, e2, e3⟩ | ⟨e1, e2, e3, e4⟩ | ⟨e1, e2, e3, -⟩
 · rw [e1] at HE
   go_enter Tryd.func122, Tryd.ntmps122
   go_wp2
   go_ret
   exact ⟨by rw [HE.out]; rfl, HAL.out _ _⟩
 · rw [e1, e2] at HE
   go_enter Tryd.func122, Tryd.ntmps122
   go_wp2
   go_ret
   exact ⟨by rw [HE.out]; rfl, HAL.out _ _⟩
 · rw [e1, e2, e3] at HE
   go_enter Tryd.func122, Tryd.ntmps122
   go_wp2
   go_ret
   exact ⟨by rw [HE.out]; rfl, HAL.out _ _⟩
 · cases e4
 · rw [e1, e2, e3] at HE
   go_enter Tryd.func122, Tryd.ntmps122
   go_wp2_with (go_at_call 27; (with_reducible refine (HEQ.out _ (HAL.out _ _)).mono ?_); rintro e w2 ⟨rfl, hb2⟩; have HB2 := Lib.hid hb2; clear hb2)
   go_ret
   exact ⟨by rw [HE.out]; rfl, HB2.out⟩
theorem tmake_all {S : Nat → Prop} {w : World} {a : Option Addr} {xs : List Api.TMake} (h : Arr S w a xs) {k : Nat} {x : Api.TMake} (hk : xs[k]? = some x) :
 ∃ (b off : Nat) (a3 : Option Addr) (n3 c3 : Nat), a = some ⟨b, off, none⟩ ∧ S b ∧ w.cell? ⟨b, off + k * 4, none⟩ = some (.int .i64 x.Cell) ∧ w.cell? ⟨b, off + k * 4 + 1, none⟩ = some (.int .i64 x.Kind) ∧ w.cell? ⟨b, off + k * 4 + 2, none⟩ = some (.int .i64 x.Num) ∧ w.cell? ⟨b, off + k * 4 + 3, none⟩ = some (.slice a3 n3 c3) ∧ x.Vals.length = n3 ∧ Arr S w a3 x.Vals := by
 obtain ⟨b, off, a3, c3, ha, hb, h0, h1, h2, h3, -, -, -, h4⟩ := api_TMake_elem h hk
 exact ⟨b, off, a3, _, c3, ha, hb, h0, h1, h2, h3, rfl, h4.2.2⟩
set_option maxRecDepth 100000 in
set_option maxHeartbeats 1000000 in
theorem sameExit_any {S1 S2 : Nat → Prop} {w : World} {X Y : Array Value} {x y : Api.TExit} (hx : Rep.cells S1 w X.toList x) (hy : Rep.cells S2 w Y.toList y) (hS1 : ∀ b, S1 b → b < w.heap.size) (hS2 : ∀ b, S2 b → b < w.heap.size) :
 Calls Tryd.prog 76 #[.agg X, .agg Y] w fun e w' => e = .returned (.bool (decide (x = y))) ∧ Below w.heap.size w w' := by
 obtain ⟨a2, a3, nS, c2, nM, c3, hX⟩ := xin_of hx
 obtain ⟨d2, d3, mS, e2, mM, e3, hY⟩ := xin_of hy
 obtain ⟨xA, xT, xS, xM⟩ := x
 obtain ⟨yA, yT, yS, yM⟩ := y
 have HE : Hid (decide ((⟨xA, xT, xS, xM⟩ : Api.TExit) = ⟨yA, yT, yS, yM⟩) = (!(xA != yA) && (!(xT != yT) && (decide (xS = yS) && decide (xM = yM))))) := by
  show _ = _
  rw [Bool.eq_iff_iff]
  simp
 obtain ⟨res, hres⟩ : ∃ b, b = decide ((⟨xA, xT, xS, xM⟩ : Api.TExit) = ⟨yA, yT, yS, yM⟩) := ⟨_, rfl⟩
 rw [← hres] at HE ⊢
 clear hres
 obtain ⟨w2, hw2⟩ : ∃ w2, w2 = (w.alloc (.cells X 32)).alloc (.cells Y 32) := ⟨_, rfl⟩
 obtain ⟨r1, r2, hb2, hz2⟩ := rows2 w X Y _ _ w2 hw2
 have HCE : Hid (∀ W, Below w2.heap.size w2 W → Row W w.heap.size 32 X ∧ Row W (w.heap.size + 1) 32 Y ∧ XIn S1 W X ⟨xA, xT, xS, xM⟩ a2 a3 nS c2 nM c3 ∧ XIn S2 W Y ⟨yA, yT, yS, yM⟩ d2 d3 mS e2 mM e3 ∧ (∀ b, S1 b → b < W.heap.size) ∧ (∀ b, S2 b → b < W.heap.size) ∧ Below w.heap.size w W) := fun W hb => by
  have hbw : Below w.heap.size w W := hb2.trans (hb.mono hb2.size)
  have hk1 : ∀ b, S1 b → W.heap[b]? = w.heap[b]? := fun b hb' => hbw.block b (hS1 b hb')
  have hk2 : ∀ b, S2 b → W.heap[b]? = w.heap[b]? := fun b hb' => hbw.block b (hS2 b hb')
  exact ⟨r1.keep (hb.block _ r1.lt), r2.keep (hb.block _ r2.lt), ⟨hX.size, hX.c0, hX.c1, hX.c2, hX.c3, hX.sets.keep hk1, hX.makes.keep hk1, hX.lenS, hX.lenM, hX.fewS, hX.fewM⟩, ⟨hY.size, hY.c0, hY.c1, hY.c2, hY.c3, hY.sets.keep hk2, hY.makes.keep hk2, hY.lenS, hY.lenM, hY.fewS, hY.fewM⟩, fun b hb' => Nat.lt_of_lt_of_le (hS1 b hb') hbw.size, fun b hb' => Nat.lt_of_lt_of_le (hS2 b hb') hbw.size, hbw⟩
 have hM9 := hX.fewM; have hmM9 := hY.fewM
 have x0 := r1.cell hX.c0; have x1 := r1.cell hX.c1; have x2 := r1.cell hX.c2; have x3 := r1.cell hX.c3
 have y0 := r2.cell hY.c0; have y1 := r2.cell hY.c1; have y2 := r2.cell hY.c2; have y3 := r2.cell hY.c3
 have l1 := r1.lt; have l2 := r2.lt
 have HH2 : Hid (Below w2.heap.size w2 w2) := Below.refl _ _
 have HEN := Lib.hid hb2
 have HLX := Lib.hid hX.lenM; have HLY := Lib.hid hY.lenM
 obtain ⟨sv, hsv⟩ : ∃ b, b = decide (xS = yS) := ⟨_, rfl⟩
 have HES : Hid (Calls Tryd.prog 121 #[.slice a2 nS c2, .slice d2 mS e2] w2 fun e w' => e = .returned (.bool sv) ∧ Below w2.heap.size w2 w') := by
  obtain ⟨k1, k2, k3, k4, k5, k6, k7⟩ := HCE.out w2 (Below.refl _ _)
  rw [hsv]
  exact eqSet_any k3.lenS k4.lenS k3.sets k4.sets k5 k6
 rw [← hsv] at HE
 clear hsv hx hy hS1 hS2 hX hY r1 r2 hb2 hz2
 dsimp only at x0 x1 y0 y1
 go_enter Tryd.func76, Tryd.ntmps76
 go_upto_region 1 with fail
 rw [← hw2]
 clear hw2
 generalize w.heap.size + 1 = gY at HCE y0 y1 y2 y3 l2 ⊢
 cases e1 : (xA != yA) with
 | true =>
   rw [e1] at HE
   go_wp2_with fail
   go_ret
   exact ⟨by rw [HE.out]; rfl, HEN.out⟩
 | false =>
   rw [e1] at HE
   cases e2 : (xT != yT) with
   | true =>
     rw [e2] at HE
     go_wp2_with fail
     go_ret
     exact ⟨by rw [HE.out]; rfl, HEN.out⟩
   | false =>
     rw [e2] at HE
     have HC4 : Hid (∀ W, Below w2.heap.size w2 W → W.cell? ⟨w.heap.size, 3, none⟩ = some (.slice a3 nM c3) ∧ W.cell? ⟨gY, 3, none⟩ = some (.slice d3 mM e3) ∧ w.heap.size < W.heap.size ∧ gY < W.heap.size) := fun W hb => by
      obtain ⟨k1, k2, k3, k4, k5, k6, k7⟩ := HCE.out W hb
      exact ⟨k1.cell k3.c3, k2.cell k4.c3, k1.lt, k2.lt⟩
     cases sv with
     | false =>
       go_wp2_with (go_at_call 121; (with_reducible refine HES.out.mono ?_); rintro e w3 ⟨rfl, hb3⟩; have HB3 := Lib.hid hb3; clear hb3)
       go_ret
       exact ⟨by rw [HE.out]; rfl, (HCE.out _ HB3.out).2.2.2.2.2.2⟩
     | true =>
       have HE2 : Hid (res = decide (xM = yM)) := by show _ = _; rw [HE.out]; rfl
       by_cases hl : nM = mM
       · subst hl
         have hb : ((nM : Int) != (nM : Int)) = false := by simp
         go_wp2_with (go_at_call 121; (with_reducible refine HES.out.mono ?_); rintro e w3 ⟨rfl, hb3⟩; have HB3 := Lib.hid hb3; obtain ⟨s1, s2, s3, s4⟩ := HC4.out _ hb3; clear hb3)
         go_loopw [38] (fun i w' => ∃ k : Nat, k ≤ nM ∧ i = .int .i64 k ∧ SameG xM yM k ∧ Below w2.heap.size w2 w') (fun i _ => nM - (intOf i).toNat)
         case atStart => exact ⟨0, Nat.zero_le _, rfl, fun i hi => by omega, HB3.out⟩
         case round =>
          obtain ⟨k, hk, rfl, hsm, hbr⟩ := hrel
          have HB := Lib.hid hsm; have HBR := Lib.hid hbr
          clear hsm s1 s2 s3 s4
          obtain ⟨k1, k2, k3, k4, k5, k6, k7⟩ := HCE.out wr hbr
          by_cases hlt : k < nM
          · obtain ⟨u, hu⟩ := get_at' (show xM.length = nM from HLX.out) hlt
            obtain ⟨v, hv⟩ := get_at' (show yM.length = nM from HLY.out) hlt
            have s1 := k1.cell k3.c3; have s2 := k2.cell k4.c3
            have l1 := k1.lt; have l2 := k2.lt
            obtain ⟨b1, o1, v3, n3, c3', rfl, hs1, p0, p1, p2, p3, hv1, hv2⟩ := tmake_all k3.makes hu
            obtain ⟨b2, o2, u3, m3, c3'', rfl, hs2, q0, q1, q2, q3, hu1, hu2⟩ := tmake_all k4.makes hv
            have hlb1 := k5 b1 hs1; have hlb2 := k6 b2 hs2
            obtain ⟨sm, hsm⟩ : ∃ b, b = decide (u = v) := ⟨_, rfl⟩
            have HSM : Hid (∀ d : Drift wr, Calls Tryd.prog 122 #[.agg #[.int .i64 u.Cell, .int .i64 u.Kind, .int .i64 u.Num, .slice v3 n3 c3'], .agg #[.int .i64 v.Cell, .int .i64 v.Kind, .int .i64 v.Num, .slice u3 m3 c3'']] d.val fun e w' => e = .returned (.bool sm) ∧ Below d.val.heap.size d.val w') := fun d => by
             rw [hsm]
             exact sameMake_any hv1 hu1 (hv2.keep fun b hb => d.below.block b (k5 b hb)) (hu2.keep fun b hb => d.below.block b (k6 b hb)) (fun b hb => Nat.lt_of_lt_of_le (k5 b hb) d.below.size) (fun b hb => Nat.lt_of_lt_of_le (k6 b hb) d.below.size)
            have HU := Lib.hid hu; have HV := Lib.hid hv; have HSMD := Lib.hid hsm
            clear k1 k2 k3 k4 k5 k6 k7 hu hv hsm hv1 hv2 hu1 hu2 hs1 hs2
            cases sm with
            | false =>
              have HNE : Hid (decide (xM = yM) = false) := decide_eq_false (ne_at HU.out HV.out (of_decide_eq_false HSMD.out.symm))
              go_wp2_with fail
              first | (refine wp_region_drift_lit (by kernel_rfl) (by kernel_rfl) (fun hdr => ?_); (repeat (go_big_quiet_step ((go_at_call 122; with_reducible exact drift_of (HSM.out _))))); refine wpQuiet_nil ?_; intro wq hw'; obtain ⟨⟨wd, hbd⟩, hw''⟩ := hw'; dsimp only at hw''; subst wq; clear hdr)
              go_wp2_with fail
              go_ret
              exact ⟨by rw [HE2.out, HNE.out]; rfl, (HCE.out _ (HBR.out.trans (hbd.mono HBR.out.size))).2.2.2.2.2.2⟩
            | true =>
              have HEQ2 : Hid (u = v) := by show u = v; exact of_decide_eq_true HSMD.out.symm
              go_wp2_with fail
              first | (refine wp_region_drift_lit (by kernel_rfl) (by kernel_rfl) (fun hdr => ?_); (repeat (go_big_quiet_step ((go_at_call 122; with_reducible exact drift_of (HSM.out _))))); refine wpQuiet_nil ?_; intro wq hw'; obtain ⟨⟨wd, hbd⟩, hw''⟩ := hw'; dsimp only at hw''; subst wq; clear hdr)
              go_wp2_with fail
              go_roundw
              case rel => exact ⟨k + 1, by omega, by go_num, HB.out.succ (by rw [HU.out, HV.out, HEQ2.out]), HBR.out.trans (hbd.mono HBR.out.size)⟩
              case measure => simp [intOf]; omega
          · have heq : xM = yM := by
             obtain rfl : k = nM := by omega
             exact HB.out.all HLX.out HLY.out
            have HEQ : Hid (decide (xM = yM) = true) := decide_eq_true heq
            have HEN7 := Lib.hid k7
            clear hbr heq k1 k2 k3 k4 k5 k6 k7
            go_wp2_with fail
            go_ret
            exact ⟨by rw [HE2.out, HEQ.out]; rfl, HEN7.out⟩
       · have hb : ((nM : Int) != (mM : Int)) = true := by simp; omega
         have HNE : Hid (decide (xM = yM) = false) := decide_eq_false fun e => hl (by rw [← HLX.out, ← HLY.out]; show xM.length = yM.length; rw [e])
         clear hl
         go_wp2_with (go_at_call 121; (with_reducible refine HES.out.mono ?_); rintro e w3 ⟨rfl, hb3⟩; have HB3 := Lib.hid hb3; obtain ⟨s1, s2, s3, s4⟩ := HC4.out _ hb3; clear hb3)
         go_ret
         exact ⟨by rw [HE2.out, HNE.out]; rfl, (HCE.out _ HB3.out).2.2.2.2.2.2⟩
end Go.Proofs.YtekofpigmggbbaaDoor.chk
/- The document's Check: walked. -/
namespace Go.Proofs.YtekofpigmggbbaaDoor.chk
open Go.Bk Go.RowKit Go.Proofs.YtekofpigmggbbaaDoor.ir
/-- What a program that may be has. -/
theorem good_fn {p : Api.Prog} (h : cod.codeChk p = 0) {k : Nat} {f : Api.Fn} (hf : p.Fns[k]? = some f) : 1 ≤ f.Regs ∧ f.Regs ≤ 60 ∧ f.Code.length ≤ 600 := by
 unfold cod.codeChk at h
 have h1 : ¬ cod.large p = true := fun e => by rw [if_pos e] at h; cases h
 rw [if_neg h1] at h
 have h2 : ¬ cod.tablesOk p = false := fun e => by rw [if_pos e] at h; cases h
 rw [if_neg h2] at h
 have h3 : ¬ cod.mainOk p = false := fun e => by rw [if_pos e] at h; cases h
 rw [if_neg h3] at h
 have h4 : ¬ (p.Fns.any fun f => !cod.funcOk p f) = true := fun e => by rw [if_pos e] at h; cases h
 have hm : f ∈ p.Fns := List.mem_of_getElem? hf
 have hb := (cod.fn_bounds (by simpa using h1)).2.2.2 f hm
 have h5 : cod.funcOk p f = true := by
  simp only [List.any_eq_true, not_exists, not_and, Bool.not_eq_true, Bool.not_eq_false'] at h4
  simpa using h4 f hm
 refine ⟨?_, hb.2, hb.1⟩
 unfold cod.funcOk at h5
 by_cases hc : f.Params < 0 ∨ f.Regs < 1 ∨ f.Regs < f.Params
 · rw [if_pos hc] at h5; cases h5
 · omega
theorem form_is (op : Int) : (formOf op).2 = false ↔ (op < 1 ∨ 19 < op) := by
 rcases op_cases op with h | rfl | rfl | rfl | rfl | rfl | rfl | rfl | rfl | rfl | rfl | rfl | rfl | rfl | rfl | rfl | rfl | rfl | rfl | rfl
 · rw [formOf_else h]; simp; exact h
 all_goals decide
/-- All of a trace as it is handed over. -/
structure TAll (S : Nat → Prop) (w : World) (T : Array Value) (t : Api.TTrace) (aI : Option Addr) (nI cI : Nat) (aE : Option Addr) (nE cE : Nat) (a7 : Option Addr) (n7 c7 : Nat) (a8 : Option Addr) (n8 c8 : Nat) (b7 : Option Addr) (m7 d7 : Nat) (b8 : Option Addr) (m8 d8 : Nat) : Prop where
 eq : T.toList = [.int .i64 t.Fn, .int .i64 t.At, .int .i64 t.Loop, .slice aI nI cI, .slice aE nE cE, .int .i64 t.Turn.At, .int .i64 t.Turn.Steps, .slice a7 n7 c7, .slice a8 n8 c8, .int .i64 t.Back.At, .int .i64 t.Back.Steps, .slice b7 m7 d7, .slice b8 m8 d8]
 ins : Arr S w aI t.Ins
 exits : Arr S w aE t.Exits
 lenI : t.Ins.length = nI
 lenE : t.Exits.length = nE
 fewI : nI ≤ 9223372036854775807
 fewE : nE ≤ 9223372036854775807
 turn : Rep.cells S w [.int .i64 t.Turn.At, .int .i64 t.Turn.Steps, .slice a7 n7 c7, .slice a8 n8 c8] t.Turn
 back : Rep.cells S w [.int .i64 t.Back.At, .int .i64 t.Back.Steps, .slice b7 m7 d7, .slice b8 m8 d8] t.Back
theorem tall_of {S : Nat → Prop} {w : World} {T : Array Value} {t : Api.TTrace} (h : Rep.cells S w T.toList t) : ∃ aI nI cI aE nE cE a7 n7 c7 a8 n8 c8 b7 m7 d7 b8 m8 d8, TAll S w T t aI nI cI aE nE cE a7 n7 c7 a8 n8 c8 b7 m7 d7 b8 m8 d8 := by
 obtain ⟨_, _, ⟨rfl, h0⟩, ⟨_, _, ⟨rfl, h1⟩, ⟨_, _, ⟨rfl, h2⟩, ⟨_, _, ⟨b3, d3, rfl, h3⟩, ⟨_, _, ⟨b4, d4, rfl, h4⟩, ⟨cT, cB, hT, hB, rfl⟩, rfl⟩, rfl⟩, rfl⟩, rfl⟩, he⟩ := h
 have hT' : Rep.cells S w cT t.Turn := hT
 have hB' : Rep.cells S w cB t.Back := hB
 obtain ⟨a7, c7, a8, c8, rfl, -⟩ := api_TExit_cells_eq hT'
 obtain ⟨b7, d7, b8, d8, rfl, -⟩ := api_TExit_cells_eq hB'
 refine ⟨b3, _, d3, b4, _, d4, a7, _, c7, a8, _, c8, b7, _, d7, b8, _, d8, he, h3.2.2, h4.2.2, rfl, rfl, ?_, ?_, hT', hB'⟩
 · have := h3.2.2.small; unfold maxLen at this; omega
 · have := h4.2.2.small; unfold maxLen at this; omega
theorem TAll.keep {S : Nat → Prop} {w W : World} {T : Array Value} {t : Api.TTrace} {aI : Option Addr} {nI cI : Nat} {aE : Option Addr} {nE cE : Nat} {a7 : Option Addr} {n7 c7 : Nat} {a8 : Option Addr} {n8 c8 : Nat} {b7 : Option Addr} {m7 d7 : Nat} {b8 : Option Addr} {m8 d8 : Nat} (h : TAll S w T t aI nI cI aE nE cE a7 n7 c7 a8 n8 c8 b7 m7 d7 b8 m8 d8) (hk : ∀ b, S b → W.heap[b]? = w.heap[b]?) : TAll S W T t aI nI cI aE nE cE a7 n7 c7 a8 n8 c8 b7 m7 d7 b8 m8 d8 :=
 ⟨h.eq, h.ins.keep hk, h.exits.keep hk, h.lenI, h.lenE, h.fewI, h.fewE, Rep.keep hk h.turn, Rep.keep hk h.back⟩
theorem zero_exit {S : Nat → Prop} {w : World} : Rep.cells S w [.int .i64 0, .int .i64 0, .slice none 0 0, .slice none 0 0] (⟨0, 0, [], []⟩ : Api.TExit) := by
 have h0 : I64 0 := by unfold I64; omega
 exact ⟨_, _, ⟨rfl, h0⟩, ⟨_, _, ⟨rfl, h0⟩, ⟨_, _, ⟨none, 0, rfl, Nat.le_refl _, fun _ => rfl, Arr.nil _ _ _⟩, ⟨none, 0, rfl, Nat.le_refl _, fun _ => rfl, Arr.nil _ _ _⟩, rfl⟩, rfl⟩, rfl⟩
end Go.Proofs.YtekofpigmggbbaaDoor.chk
/- Plain: what a trace that may be has. -/
namespace Go.Proofs.YtekofpigmggbbaaDoor.cut
open Go.Bk Go.Proofs.YtekofpigmggbbaaDoor.ir Go.Proofs.YtekofpigmggbbaaDoor.chk
theorem valAt_iff {ins : List Api.TIns} {v a : Int} : valAt ins v a = true ↔ ∃ (k : Nat) (x : Api.TIns), v = k ∧ (k : Int) < a ∧ ins[k]? = some x ∧ tellsOf x.Op = true := by
 constructor
 · intro h
   by_cases hin : 0 ≤ v ∧ v < a ∧ v < ins.length
   · obtain ⟨k, rfl⟩ : ∃ k : Nat, v = k := ⟨v.toNat, by omega⟩
     obtain ⟨x, hx⟩ : ∃ x, ins[k]? = some x := ⟨_, List.getElem?_eq_getElem (by omega)⟩
     exact ⟨k, x, rfl, hin.2.1, hx, by rw [← valAt_in hin.2.1 hx]; exact h⟩
   · rw [valAt_not hin] at h; cases h
 · rintro ⟨k, x, rfl, h1, h2, h3⟩
   rw [valAt_in h1 h2]; exact h3
theorem valAt_mono {ins : List Api.TIns} {v a b : Int} (h : valAt ins v a = true) (hab : a ≤ b) : valAt ins v b = true := by
 obtain ⟨k, x, h1, h2, h3, h4⟩ := valAt_iff.1 h
 exact valAt_iff.2 ⟨k, x, h1, by omega, h3, h4⟩
/-- What an exit of a trace that may be has. -/
structure ExitR (ins : List Api.TIns) (x : Api.TExit) : Prop where
 fewS : x.Sets.length ≤ 60
 fewM : x.Makes.length ≤ 300
 sets : ∀ s ∈ x.Sets, valAt ins s.Val ins.length = true
 makes : ∀ m ∈ x.Makes, valAt ins m.Cell ins.length = true ∧ m.Vals.length ≤ 100 ∧ ∀ v ∈ m.Vals, valAt ins v ins.length = true
/-- What a trace that may be has. -/
structure RightT (t : Api.TTrace) : Prop where
 few : t.Ins.length ≤ 300
 fewE : t.Exits.length ≤ 200
 loop : 0 ≤ t.Loop ∧ t.Loop ≤ t.Ins.length
 form : ∀ (i : Nat) (x : Api.TIns), t.Ins[i]? = some x → 1 ≤ x.Op ∧ x.Op ≤ 19
 asks : ∀ (i : Nat) (x : Api.TIns), t.Ins[i]? = some x → ∀ v ∈ asksOf x, valAt t.Ins v i = true
 way : ∀ (i : Nat) (x : Api.TIns), t.Ins[i]? = some x → x.Exit = -1 ∨ (0 ≤ x.Exit ∧ x.Exit < t.Exits.length)
 exits : ∀ x ∈ t.Exits, ExitR t.Ins x
 turn : ExitR t.Ins t.Turn
 back : ExitR t.Ins t.Back
theorem regs_up {l : List Api.TSet} (h : ∀ (j : Nat) (s : Api.TSet), l[j]? = some s → prevR l j < s.Reg) : ∀ (j : Nat) (s : Api.TSet), l[j]? = some s → (j : Int) ≤ s.Reg
 | 0, s, hs => by
   have := h 0 s hs
   unfold prevR at this
   rw [if_pos rfl] at this
   omega
 | j + 1, s, hs => by
   have hl := (List.getElem?_eq_some_iff.1 hs).1
   obtain ⟨s', hs'⟩ : ∃ s', l[j]? = some s' := ⟨_, List.getElem?_eq_getElem (by omega)⟩
   have h1 := regs_up h j s' hs'
   have h2 := h (j + 1) s hs
   unfold prevR at h2
   rw [if_neg (by omega)] at h2
   simp only [Nat.add_sub_cancel, hs'] at h2
   omega
theorem cells_up {l : List Api.TMake} (h : ∀ (j : Nat) (s : Api.TMake), l[j]? = some s → prevC l j < s.Cell) : ∀ (j : Nat) (s : Api.TMake), l[j]? = some s → (j : Int) ≤ s.Cell
 | 0, s, hs => by
   have := h 0 s hs
   unfold prevC at this
   rw [if_pos rfl] at this
   omega
 | j + 1, s, hs => by
   have hl := (List.getElem?_eq_some_iff.1 hs).1
   obtain ⟨s', hs'⟩ : ∃ s', l[j]? = some s' := ⟨_, List.getElem?_eq_getElem (by omega)⟩
   have h1 := cells_up h j s' hs'
   have h2 := h (j + 1) s hs
   unfold prevC at h2
   rw [if_neg (by omega)] at h2
   simp only [Nat.add_sub_cancel, hs'] at h2
   omega
theorem exitR_of {regs cl : Int} {ins : List Api.TIns} {x : Api.TExit} {a : Int} (h : exitOk regs cl ins x a = true) (hr : regs ≤ 60) (hi : ins.length ≤ 300) (ha : a ≤ ins.length) : ExitR ins x := by
 unfold exitOk at h
 simp only [Bool.and_eq_true] at h
 obtain ⟨-, h1, h2⟩ := h
 have hs : ∀ (j : Nat) (s : Api.TSet), x.Sets[j]? = some s → prevR x.Sets j < s.Reg ∧ s.Reg < regs ∧ valAt ins s.Val a = true := by
  intro j s hj
  have h3 := allTo_at h1 (List.getElem?_eq_some_iff.1 hj).1
  unfold setC at h3
  rw [hj] at h3
  simpa using h3
 have hm : ∀ (j : Nat) (m : Api.TMake), x.Makes[j]? = some m → prevC x.Makes j < m.Cell ∧ makeOk ins a m = true := by
  intro j m hj
  have h3 := allTo_at h2 (List.getElem?_eq_some_iff.1 hj).1
  unfold makeC at h3
  rw [hj] at h3
  simpa using h3
 have hmk : ∀ (j : Nat) (m : Api.TMake), x.Makes[j]? = some m → valAt ins m.Cell a = true ∧ m.Vals.length ≤ 100 ∧ ∀ v ∈ m.Vals, valAt ins v a = true := by
  intro j m hj
  have h3 := (hm j m hj).2
  unfold makeOk at h3
  simp only [Bool.and_eq_true, decide_eq_true_eq, List.all_eq_true] at h3
  exact ⟨h3.1, h3.2.2.2.2.2.1, h3.2.2.2.2.2.2⟩
 refine ⟨?_, ?_, ?_, ?_⟩
 · refine Decidable.byContradiction fun hn => ?_
   obtain ⟨s, hsj⟩ : ∃ s, x.Sets[60]? = some s := ⟨_, List.getElem?_eq_getElem (by omega)⟩
   have h3 := regs_up (fun j s hj => (hs j s hj).1) 60 s hsj
   have h4 := (hs 60 s hsj).2.1
   omega
 · refine Decidable.byContradiction fun hn => ?_
   obtain ⟨m, hmj⟩ : ∃ m, x.Makes[300]? = some m := ⟨_, List.getElem?_eq_getElem (by omega)⟩
   have h3 := cells_up (fun j s hj => (hm j s hj).1) 300 m hmj
   obtain ⟨k, y, h4, h5, h6, -⟩ := valAt_iff.1 (hmk 300 m hmj).1
   have := (List.getElem?_eq_some_iff.1 h6).1
   omega
 · intro s hs'
   obtain ⟨j, hj⟩ := List.getElem?_of_mem hs'
   exact valAt_mono (hs j s hj).2.2 ha
 · intro m hm'
   obtain ⟨j, hj⟩ := List.getElem?_of_mem hm'
   obtain ⟨q1, q2, q3⟩ := hmk j m hj
   exact ⟨valAt_mono q1 ha, q2, fun v hv => valAt_mono (q3 v hv) ha⟩
theorem exitR_zero (ins : List Api.TIns) {x : Api.TExit} (h : bareX x = true) : ExitR ins x := by
 unfold bareX at h
 simp only [Bool.and_eq_true, decide_eq_true_eq] at h
 obtain ⟨-, -, h1, h2⟩ := h
 exact ⟨by rw [h1]; simp, by rw [h2]; simp, by rw [h1]; simp, by rw [h2]; simp⟩
theorem right_of {p : Api.Prog} {t : Api.TTrace} (hp : cod.codeChk p = 0) (h : traceChk p t = 0) : RightT t := by
 unfold traceChk at h
 split at h
 · exact absurd h (by decide)
 rename_i hfew
 split at h
 · exact absurd h (by decide)
 rename_i f hf
 split at h
 · exact absurd h (by decide)
 rename_i hb
 split at h
 · rename_i h4; exact absurd h h4
 rename_i h4
 have h4 : insTo f.Regs f.Code.length t.Ins t.Exits t.Ins.length = 0 := Decidable.not_not.1 h4
 split at h
 · exact absurd h (by decide)
 rename_i h5
 have h5 : endOk f.Regs f.Code.length t = true := by simpa using h5
 have hregs : f.Regs ≤ 60 := by
  split at hf
  · cases hf
  · exact (good_fn hp hf).2.1
 have hi : t.Ins.length ≤ 300 := by omega
 have hone : ∀ (k : Nat) (x : Api.TIns), t.Ins[k]? = some x → (formOf x.Op).2 = true ∧ insOk f.Regs f.Code.length t.Ins t.Exits x k = true := by
  intro k x hk
  have hl := (List.getElem?_eq_some_iff.1 hk).1
  have h5 : insTo f.Regs f.Code.length t.Ins t.Exits (k + 1) = 0 := by
   apply Decidable.not_not.1
   intro hn
   exact hn ((insTo_stop f.Regs f.Code.length t.Ins hn (show k + 1 ≤ t.Ins.length by omega)).symm.trans h4)
  have h6 : insC f.Regs f.Code.length t.Ins t.Exits k = 0 := by
   have h7 : (if insTo f.Regs f.Code.length t.Ins t.Exits k = 0 then insC f.Regs f.Code.length t.Ins t.Exits k else insTo f.Regs f.Code.length t.Ins t.Exits k) = 0 := h5
   split at h7
   · exact h7
   · rename_i h8; exact absurd h7 h8
  unfold insC at h6
  rw [hk] at h6
  dsimp only at h6
  split at h6
  · exact absurd h6 (by decide)
  rename_i h7
  split at h6
  · exact absurd h6 (by decide)
  rename_i h8
  exact ⟨by simpa using h7, by simpa using h8⟩
 unfold endOk at h5
 simp only [Bool.and_eq_true, decide_eq_true_eq, List.all_eq_true] at h5
 obtain ⟨h6, ⟨h7, h8⟩, h9⟩ := h5
 refine ⟨hi, by omega, by omega, ?_, ?_, ?_, ?_, ?_, ?_⟩
 · intro i x hx
   have h1 := (hone i x hx).1
   refine Decidable.byContradiction fun hn => ?_
   rw [(form_is x.Op).2 (by omega)] at h1
   cases h1
 · intro i x hx v hv
   have h2 := (hone i x hx).2
   unfold insOk at h2
   simp only [Bool.and_eq_true] at h2
   have h3 := h2.1
   unfold argsOk at h3
   simp only [Bool.and_eq_true] at h3
   obtain ⟨q0, q1, q2⟩ := h3
   unfold argOk at q0 q1 q2
   unfold asksOf at hv
   have hc := asks_cases x.Op
   rcases hc with ⟨_, e⟩ | ⟨_, e | e | e | e⟩
   all_goals rw [e] at hv q0 q1 q2
   · simp at hv
   · simp at hv
   · rw [if_pos (by decide)] at q0
     obtain rfl : v = x.A := by simpa using hv
     exact q0
   · rw [if_pos (by decide)] at q0 q1
     rcases (show v = x.A ∨ v = x.B by simpa using hv) with rfl | rfl
     · exact q0
     · exact q1
   · rw [if_pos (by decide)] at q0 q1 q2
     rcases (show v = x.A ∨ v = x.B ∨ v = x.C by simpa using hv) with rfl | rfl | rfl
     · exact q0
     · exact q1
     · exact q2
 · intro i x hx
   have h2 := (hone i x hx).2
   unfold insOk at h2
   simp only [Bool.and_eq_true] at h2
   have h3 := h2.2.2.2
   unfold wayOk at h3
   split at h3
   · exact .inl (by simpa using h3)
   · split at h3
     · rename_i h4; exact .inr h4
     · cases h3
 · intro x hx
   exact exitR_of (h9 x hx) hregs hi (Int.le_refl _)
 · split at h6
   · simp only [Bool.and_eq_true] at h6
     exact exitR_of h6.2 hregs hi (by omega)
   · exact exitR_zero _ h6
 · exact exitR_of h8 hregs hi (Int.le_refl _)
theorem RightT.ahead {t : Api.TTrace} (h : RightT t) : Ahead t.Ins := fun i x hx v hv => by
 obtain ⟨k, y, rfl, h1, -⟩ := valAt_iff.1 (h.asks i x hx v hv)
 omega
/-- Where all values stay, all is fine. -/
theorem fineT_of {t : Api.TTrace} {ts : List Int} (hr : RightT t) (hto : toOk ts t.Ins.length = true) (hk : ∀ (k : Nat) (x : Api.TIns) (n : Int), t.Ins[k]? = some x → tellsOf x.Op = true → ts[k]? = some n → 0 ≤ n ∧ ∃ y, t.Ins[n.toNat]? = some y ∧ tellsOf y.Op = true) : fineT t ts = true := by
 have hg : ∀ (k : Nat) (x : Api.TIns), t.Ins[k]? = some x → tellsOf x.Op = true → ∀ m, k < m → m ≤ t.Ins.length → 0 ≤ oneV (atOf ts m) k := by
  intro k
  induction k using Nat.strongRecOn with
  | _ k ih =>
    intro x hx ht m hm hmn
    have hl := (List.getElem?_eq_some_iff.1 hx).1
    obtain ⟨n, hn, h1, h2⟩ := toOk_at hto hl
    obtain ⟨h3, y, hy, hyt⟩ := hk k x n hx ht hn
    by_cases he : n = k
    · subst he
      rw [oneV_kept hm hn]
      omega
    · obtain ⟨j, rfl⟩ : ∃ j : Nat, n = j := ⟨n.toNat, by omega⟩
      rw [oneV_step hm hn he h1 h2]
      exact ih j (by omega) y (by simpa using hy) hyt m (by omega) hmn
 have hv : ∀ (v a : Int) (m : Nat), valAt t.Ins v a = true → a ≤ m → m ≤ t.Ins.length → fineV (oneV (atOf ts m)) v = true := by
  intro v a m hva ham hmn
  obtain ⟨k, x, rfl, h1, h2, h3⟩ := valAt_iff.1 hva
  exact decide_eq_true (hg k x h2 h3 m (by omega) hmn)
 have he : ∀ x, ExitR t.Ins x → fineExit (gOf t ts) x = true := by
  intro x hx
  unfold fineExit
  simp only [Bool.and_eq_true, List.all_eq_true]
  refine ⟨fun s hs => hv _ _ _ (hx.sets s hs) (Int.le_refl _) (Nat.le_refl _), fun m hm => ?_⟩
  obtain ⟨q1, -, q3⟩ := hx.makes m hm
  unfold fineMake
  simp only [Bool.and_eq_true, List.all_eq_true]
  exact ⟨hv _ _ _ q1 (Int.le_refl _) (Nat.le_refl _), fun v hv' => hv _ _ _ (q3 v hv') (Int.le_refl _) (Nat.le_refl _)⟩
 have hi : ∀ k, k ≤ t.Ins.length → fineTo ts t.Ins k = true := by
  intro k
  induction k with
  | zero => intro _; rfl
  | succ k ih =>
    intro hk'
    show (_ && _) = true
    rw [ih (by omega)]
    obtain ⟨x, hx⟩ : ∃ x, t.Ins[k]? = some x := ⟨_, List.getElem?_eq_getElem (by omega)⟩
    rw [hx]
    dsimp only
    split
    · unfold fineIns
      rw [Bool.true_and, List.all_eq_true]
      intro v hv'
      exact hv v k _ (hr.asks k x hx v hv') (by omega) hk'
    · rfl
 unfold fineT
 rw [hi _ (Nat.le_refl _), he _ hr.turn, he _ hr.back]
 simp only [Bool.true_and, Bool.and_true, List.all_eq_true]
 exact fun x hx => he x (hr.exits x hx)
/-- Nothing is left out. -/
def idTo (n : Nat) : List Int := (List.range n).map fun (k : Nat) => (k : Int)
theorem idTo_at {n k : Nat} (h : k < n) : (idTo n)[k]? = some (k : Int) := by simp [idTo, h]
theorem idTo_len (n : Nat) : (idTo n).length = n := by simp [idTo]
theorem idTo_ok (n : Nat) : ∀ k, k ≤ n → toOk (idTo n) k = true := fun k hk => toOk_of fun j hj => ⟨j, idTo_at (by omega), by omega, Int.le_refl _⟩
theorem idTo_kept (n : Nat) : ∀ k, k ≤ n → keptN (idTo n) k = k
 | 0, _ => rfl
 | k + 1, h => by
   show keptN _ k + _ = _
   rw [idTo_kept n k (by omega), idTo_at (show k < n by omega), if_pos rfl]
theorem idTo_one {n m : Nat} {v : Int} (h0 : 0 ≤ v) (hv : v < m) (hm : m ≤ n) : oneV (atOf (idTo n) m) v = v := by
 obtain ⟨k, rfl⟩ : ∃ k : Nat, v = k := ⟨v.toNat, by omega⟩
 rw [oneV_kept (show k < m by omega) (idTo_at (by omega)), idTo_kept n k (by omega)]
theorem map_id_of {α : Type} {f : α → α} : ∀ {l : List α}, (∀ x ∈ l, f x = x) → l.map f = l
 | [], _ => rfl
 | x :: l, h => by rw [List.map_cons, h x (List.mem_cons_self ..), map_id_of fun y hy => h y (List.mem_cons_of_mem _ hy)]
theorem cut_id {t : Api.TTrace} (hr : RightT t) : cutT t (idTo t.Ins.length) = t := by
 have hv : ∀ (v a : Int) (m : Nat), valAt t.Ins v a = true → a ≤ m → m ≤ t.Ins.length → oneV (atOf (idTo t.Ins.length) m) v = v := by
  intro v a m hva ham hmn
  obtain ⟨k, x, rfl, h1, h2, h3⟩ := valAt_iff.1 hva
  exact idTo_one (by omega) (by omega) hmn
 have he : ∀ x, ExitR t.Ins x → cutExit (gOf t (idTo t.Ins.length)) x = x := by
  rintro ⟨a, b, c, d⟩ hx
  unfold cutExit
  congr 1
  · refine map_id_of fun s hs => ?_
    obtain ⟨q, r⟩ := s
    unfold cutSet
    congr 1
    exact hv _ _ _ (hx.sets _ hs) (Int.le_refl _) (Nat.le_refl _)
  · refine map_id_of fun m hm => ?_
    obtain ⟨q1, -, q3⟩ := hx.makes _ hm
    obtain ⟨m1, m2, m3, m4⟩ := m
    unfold cutMake
    congr 1
    · exact hv _ _ _ q1 (Int.le_refl _) (Nat.le_refl _)
    · exact map_id_of fun v hv' => hv _ _ _ (q3 v hv') (Int.le_refl _) (Nat.le_refl _)
 have hi : ∀ k, k ≤ t.Ins.length → cutTo (idTo t.Ins.length) t.Ins k = t.Ins.take k := by
  intro k
  induction k with
  | zero => intro _; rfl
  | succ k ih =>
    intro hk'
    show _ ++ _ = _
    obtain ⟨x, hx⟩ : ∃ x, t.Ins[k]? = some x := ⟨_, List.getElem?_eq_getElem (by omega)⟩
    rw [ih (by omega), hx, idTo_at (show k < t.Ins.length by omega)]
    dsimp only
    rw [if_pos rfl, List.take_add_one, hx]
    congr 2
    have hq : cutIns (oneV (atOf (idTo t.Ins.length) (k + 1))) x = cutIns (fun v => v) x := cutIns_congr fun v hv' => hv v k _ (hr.asks k x hx v hv') (by omega) hk'
    rw [hq]
    unfold cutIns cutArgs
    simp
 obtain ⟨h1, h2, h3, h4, h5, h6, h7⟩ := t
 unfold cutT cutLoop
 have hl := hr.loop
 simp only at hi hl ⊢
 congr 1
 · rw [idTo_kept _ _ (by omega)]; omega
 · rw [hi _ (Nat.le_refl _), List.take_length]
 · exact map_id_of fun x hx => he x (hr.exits x hx)
 · exact he _ hr.turn
 · exact he _ hr.back
end Go.Proofs.YtekofpigmggbbaaDoor.cut
/- The document's: traces that are one, are the same: walked. -/
namespace Go.Proofs.YtekofpigmggbbaaDoor.cut
open Go.Bk Go.RowKit Go.Proofs.YtekofpigmggbbaaDoor.ir Go.Proofs.YtekofpigmggbbaaDoor.chk
set_option maxRecDepth 100000 in
theorem eqIns_true {S1 S2 : Nat → Prop} {w : World} {a1 a2 : Option Addr} {c1 c2 n : Nat} {xs : List Api.TIns} (hn : xs.length = n) (h1 : Arr S1 w a1 xs) (h2 : Arr S2 w a2 xs) (hS1 : ∀ b, S1 b → b < w.heap.size) (hS2 : ∀ b, S2 b → b < w.heap.size) :
 Calls Tryd.prog 87 #[.slice a1 n c1, .slice a2 n c2] w fun e w' => e = .returned (.bool true) ∧ Below w.heap.size w w' := by
 have hm1 := h1.small
 rw [hn] at hm1
 unfold maxLen at hm1
 have H1 := Lib.hid hn
 have HA1 := Lib.hid h1; have HA2 := Lib.hid h2; have HS1 := Lib.hid hS1; have HS2 := Lib.hid hS2
 have HRF : Hid (Below w.heap.size w w) := Below.refl _ _
 have hb : ((n : Int) != (n : Int)) = false := by simp
 clear hn h1 h2 hS1 hS2
 go_enter Tryd.func87, Tryd.ntmps87
 go_wp2_with fail
 go_loopw [14] (fun i w' => ∃ k : Nat, k ≤ n ∧ i = .int .i64 k ∧ Below w.heap.size w w') (fun i _ => n - (intOf i).toNat)
 case atStart => exact ⟨0, Nat.zero_le _, rfl, HRF.out⟩
 case round =>
  obtain ⟨k, hk, rfl, hbr⟩ := hrel
  have HBR := Lib.hid hbr
  by_cases hlt : k < n
  · obtain ⟨x, hx⟩ := get_at' H1.out hlt
    obtain ⟨b1, o1, rfl, hs1, p0, p1, p2, p3, p4, p5, p6, p7, -⟩ := api_TIns_elem (HA1.out.keep (w' := wr) fun b hb => hbr.block b (HS1.out b hb)) hx
    obtain ⟨w5, hw5⟩ : ∃ w5, w5 = wr.alloc (.cells #[.int .i64 x.Op, .int .i64 x.A, .int .i64 x.B, .int .i64 x.C, .int .i64 x.N, .int .i64 x.Exit, .int .i64 x.K.Kind, .int .i64 x.K.N] 43) := ⟨_, rfl⟩
    have hb5 : Below wr.heap.size wr w5 := by rw [hw5]; exact cod.below_al2 _
    have HB5 : Hid (Below w.heap.size w w5) := hbr.trans (hb5.mono hbr.size)
    have hrow := row_new wr #[.int .i64 x.Op, .int .i64 x.A, .int .i64 x.B, .int .i64 x.C, .int .i64 x.N, .int .i64 x.Exit, .int .i64 x.K.Kind, .int .i64 x.K.N] 43
    rw [← hw5] at hrow
    obtain ⟨b2, o2, rfl, hs2, q0, q1, q2, q3, q4, q5, q6, q7, -⟩ := api_TIns_elem (HA2.out.keep (w' := w5) fun b hb => HB5.out.block b (HS2.out b hb)) hx
    have hlb1 : b1 < wr.heap.size := Nat.lt_of_lt_of_le (HS1.out b1 hs1) hbr.size
    have z0 := hrow.cell (j := 0) rfl; have z1 := hrow.cell (j := 1) rfl; have z2 := hrow.cell (j := 2) rfl; have z3 := hrow.cell (j := 3) rfl; have z4 := hrow.cell (j := 4) rfl; have z5 := hrow.cell (j := 5) rfl; have z6 := hrow.cell (j := 6) rfl; have z7 := hrow.cell (j := 7) rfl
    have lS := hrow.lt
    have hlb2 : b2 < w5.heap.size := Nat.lt_of_lt_of_le (HS2.out b2 hs2) HB5.out.size
    have e0 : (x.Op == x.Op) = true := by simp
    have e1 : (x.A == x.A) = true := by simp
    have e2 : (x.B == x.B) = true := by simp
    have e3 : (x.C == x.C) = true := by simp
    have e4 : (x.N == x.N) = true := by simp
    have e5 : (x.Exit == x.Exit) = true := by simp
    have e6 : (x.K.Kind == x.K.Kind) = true := by simp
    have e7 : (x.K.N == x.K.N) = true := by simp
    clear hx hbr hb5 hrow hs1 hs2
    go_upto_region 6 with fail
    rw [← hw5]
    clear hw5 p0 p1 p2 p3 p4 p5 p6 p7
    go_quiet (fail)
    go_wp2
    go_roundw
    case rel => exact ⟨k + 1, by omega, by go_num, HB5.out.trans (((Quiet.refl _).more _).below _)⟩
    case measure => simp [intOf]; omega
  · clear hbr
    go_wp2
    go_ret
    exact ⟨rfl, HBR.out⟩
set_option maxRecDepth 100000 in
set_option maxHeartbeats 4000000 in
theorem sameTrace_true {S1 S2 : Nat → Prop} {w : World} {X Y : Array Value} {t : Api.TTrace} (hx : Rep.cells S1 w X.toList t) (hy : Rep.cells S2 w Y.toList t) (hS1 : ∀ b, S1 b → b < w.heap.size) (hS2 : ∀ b, S2 b → b < w.heap.size) :
 Calls Tryd.prog 38 #[.agg X, .agg Y] w fun e w' => e = .returned (.bool true) ∧ Below w.heap.size w w' := by
 obtain ⟨aI, nI, cI, aE, nE, cE, a7, n7, c7, a8, n8, c8, b7, m7, d7, b8, m8, d8, hX⟩ := tall_of hx
 obtain ⟨pI, kI, eI, pE, kE, eE, p7, k7, e7, p8, k8, e8, q7, l7, f7, q8, l8, f8, hY⟩ := tall_of hy
 obtain rfl : nI = kI := hX.lenI.symm.trans hY.lenI
 obtain rfl : nE = kE := hX.lenE.symm.trans hY.lenE
 have hE9 := hX.fewE
 obtain ⟨w2, hw2⟩ : ∃ w2, w2 = (w.alloc (.cells X 34)).alloc (.cells Y 34) := ⟨_, rfl⟩
 obtain ⟨r1, r2, hb2, hz2⟩ := rows2 w X Y _ _ w2 hw2
 have HCE : Hid (∀ W, Below w2.heap.size w2 W → Row W w.heap.size 34 X ∧ Row W (w.heap.size + 1) 34 Y ∧ TAll S1 W X t aI nI cI aE nE cE a7 n7 c7 a8 n8 c8 b7 m7 d7 b8 m8 d8 ∧ TAll S2 W Y t pI nI eI pE nE eE p7 k7 e7 p8 k8 e8 q7 l7 f7 q8 l8 f8 ∧ (∀ b, S1 b → b < W.heap.size) ∧ (∀ b, S2 b → b < W.heap.size) ∧ Below w.heap.size w W) := fun W hb => by
  have hbw : Below w.heap.size w W := hb2.trans (hb.mono hb2.size)
  exact ⟨r1.keep (hb.block _ r1.lt), r2.keep (hb.block _ r2.lt), hX.keep fun b hb' => hbw.block b (hS1 b hb'), hY.keep fun b hb' => hbw.block b (hS2 b hb'), fun b hb' => Nat.lt_of_lt_of_le (hS1 b hb') hbw.size, fun b hb' => Nat.lt_of_lt_of_le (hS2 b hb') hbw.size, hbw⟩
 have HXE := Lib.hid hX.eq; have HYE := Lib.hid hY.eq; have HLE := Lib.hid hX.lenE
 have HC : Hid (∀ W, Below w2.heap.size w2 W →
  W.cell? ⟨w.heap.size, 0, none⟩ = some (.int .i64 t.Fn) ∧ W.cell? ⟨w.heap.size, 1, none⟩ = some (.int .i64 t.At) ∧ W.cell? ⟨w.heap.size, 2, none⟩ = some (.int .i64 t.Loop) ∧ W.cell? ⟨w.heap.size, 3, none⟩ = some (.slice aI nI cI) ∧ W.cell? ⟨w.heap.size, 4, none⟩ = some (.slice aE nE cE) ∧ W.cell? ⟨w.heap.size, 5, none⟩ = some (.int .i64 t.Turn.At) ∧ W.cell? ⟨w.heap.size, 6, none⟩ = some (.int .i64 t.Turn.Steps) ∧ W.cell? ⟨w.heap.size, 7, none⟩ = some (.slice a7 n7 c7) ∧ W.cell? ⟨w.heap.size, 8, none⟩ = some (.slice a8 n8 c8) ∧ W.cell? ⟨w.heap.size, 9, none⟩ = some (.int .i64 t.Back.At) ∧ W.cell? ⟨w.heap.size, 10, none⟩ = some (.int .i64 t.Back.Steps) ∧ W.cell? ⟨w.heap.size, 11, none⟩ = some (.slice b7 m7 d7) ∧ W.cell? ⟨w.heap.size, 12, none⟩ = some (.slice b8 m8 d8) ∧
  W.cell? ⟨w.heap.size + 1, 0, none⟩ = some (.int .i64 t.Fn) ∧ W.cell? ⟨w.heap.size + 1, 1, none⟩ = some (.int .i64 t.At) ∧ W.cell? ⟨w.heap.size + 1, 2, none⟩ = some (.int .i64 t.Loop) ∧ W.cell? ⟨w.heap.size + 1, 3, none⟩ = some (.slice pI nI eI) ∧ W.cell? ⟨w.heap.size + 1, 4, none⟩ = some (.slice pE nE eE) ∧ W.cell? ⟨w.heap.size + 1, 5, none⟩ = some (.int .i64 t.Turn.At) ∧ W.cell? ⟨w.heap.size + 1, 6, none⟩ = some (.int .i64 t.Turn.Steps) ∧ W.cell? ⟨w.heap.size + 1, 7, none⟩ = some (.slice p7 k7 e7) ∧ W.cell? ⟨w.heap.size + 1, 8, none⟩ = some (.slice p8 k8 e8) ∧ W.cell? ⟨w.heap.size + 1, 9, none⟩ = some (.int .i64 t.Back.At) ∧ W.cell? ⟨w.heap.size + 1, 10, none⟩ = some (.int .i64 t.Back.Steps) ∧ W.cell? ⟨w.heap.size + 1, 11, none⟩ = some (.slice q7 l7 f7) ∧ W.cell? ⟨w.heap.size + 1, 12, none⟩ = some (.slice q8 l8 f8)) := fun W hb => by
  obtain ⟨k1, k2, -⟩ := HCE.out W hb
  exact ⟨k1.cell (j := 0) (by rw [HXE.out]; rfl), k1.cell (j := 1) (by rw [HXE.out]; rfl), k1.cell (j := 2) (by rw [HXE.out]; rfl), k1.cell (j := 3) (by rw [HXE.out]; rfl), k1.cell (j := 4) (by rw [HXE.out]; rfl), k1.cell (j := 5) (by rw [HXE.out]; rfl), k1.cell (j := 6) (by rw [HXE.out]; rfl), k1.cell (j := 7) (by rw [HXE.out]; rfl), k1.cell (j := 8) (by rw [HXE.out]; rfl), k1.cell (j := 9) (by rw [HXE.out]; rfl), k1.cell (j := 10) (by rw [HXE.out]; rfl), k1.cell (j := 11) (by rw [HXE.out]; rfl), k1.cell (j := 12) (by rw [HXE.out]; rfl), k2.cell (j := 0) (by rw [HYE.out]; rfl), k2.cell (j := 1) (by rw [HYE.out]; rfl), k2.cell (j := 2) (by rw [HYE.out]; rfl), k2.cell (j := 3) (by rw [HYE.out]; rfl), k2.cell (j := 4) (by rw [HYE.out]; rfl), k2.cell (j := 5) (by rw [HYE.out]; rfl), k2.cell (j := 6) (by rw [HYE.out]; rfl), k2.cell (j := 7) (by rw [HYE.out]; rfl), k2.cell (j := 8) (by rw [HYE.out]; rfl), k2.cell (j := 9) (by rw [HYE.out]; rfl), k2.cell (j := 10) (by rw [HYE.out]; rfl), k2.cell (j := 11) (by rw [HYE.out]; rfl), k2.cell (j := 12) (by rw [HYE.out]; rfl)⟩
 have HB0 : Hid (Below w2.heap.size w2 w2) := Below.refl _ _
 have HEI : Hid (∀ W, Below w2.heap.size w2 W → Calls Tryd.prog 87 #[.slice aI nI cI, .slice pI nI eI] W fun e w' => e = .returned (.bool true) ∧ Below w2.heap.size w2 w') := fun W hb => by
  obtain ⟨k1, k2, k3, k4, k5, k6, k7⟩ := HCE.out W hb
  exact (eqIns_true k3.lenI k3.ins k4.ins k5 k6).mono fun e w' ⟨he, hb'⟩ => ⟨he, hb.trans (hb'.mono hb.size)⟩
 have HEX : Hid (∀ (W : World) (A B : Array Value) (x : Api.TExit), Below w2.heap.size w2 W → Rep.cells S1 W A.toList x → Rep.cells S2 W B.toList x → Calls Tryd.prog 76 #[.agg A, .agg B] W fun e w' => e = .returned (.bool true) ∧ Below w2.heap.size w2 w') := fun W A B x hb ha hb2 => by
  obtain ⟨k1, k2, k3, k4, k5, k6, k7⟩ := HCE.out W hb
  have h := sameExit_any ha hb2 k5 k6
  rw [decide_eq_true rfl] at h
  exact h.mono fun e w' ⟨he, hb'⟩ => ⟨he, hb.trans (hb'.mono hb.size)⟩
 have HTU : Hid (∀ W, Below w2.heap.size w2 W → Calls Tryd.prog 76 #[.agg #[.int .i64 t.Turn.At, .int .i64 t.Turn.Steps, .slice a7 n7 c7, .slice a8 n8 c8], .agg #[.int .i64 t.Turn.At, .int .i64 t.Turn.Steps, .slice p7 k7 e7, .slice p8 k8 e8]] W fun e w' => e = .returned (.bool true) ∧ Below w2.heap.size w2 w') := fun W hb => by
  obtain ⟨k1, k2, k3, k4, k5, k6, k7⟩ := HCE.out W hb
  exact HEX.out W _ _ t.Turn hb k3.turn k4.turn
 have HBA : Hid (∀ W, Below w2.heap.size w2 W → Calls Tryd.prog 76 #[.agg #[.int .i64 t.Back.At, .int .i64 t.Back.Steps, .slice b7 m7 d7, .slice b8 m8 d8], .agg #[.int .i64 t.Back.At, .int .i64 t.Back.Steps, .slice q7 l7 f7, .slice q8 l8 f8]] W fun e w' => e = .returned (.bool true) ∧ Below w2.heap.size w2 w') := fun W hb => by
  obtain ⟨k1, k2, k3, k4, k5, k6, k7⟩ := HCE.out W hb
  exact HEX.out W _ _ t.Back hb k3.back k4.back
 have dF : (t.Fn != t.Fn) = false := by simp
 have dA : (t.At != t.At) = false := by simp
 have dL : (t.Loop != t.Loop) = false := by simp
 have dE : ((nE : Int) != (nE : Int)) = false := by simp
 have HZ := Lib.hid hz2
 clear hx hy hS1 hS2 hX hY r1 r2 hb2 hz2
 obtain ⟨x0, x1, x2, x3, x4, x5, x6, x7, x8, x9, x10, x11, x12, y0, y1, y2, y3, y4, y5, y6, y7, y8, y9, y10, y11, y12⟩ := HC.out w2 HB0.out
 have hl2 : w.heap.size + 1 < w2.heap.size := by have := HZ.out; omega
 go_enter Tryd.func38, Tryd.ntmps38
 go_upto_region 1 with fail
 rw [← hw2]
 clear hw2
 go_wp2_with (first
  | (go_at_call 87; (with_reducible refine (HEI.out _ HB0.out).mono ?_); rintro e w3 ⟨rfl, hb3⟩; have HB3 := Lib.hid hb3; clear x0 x1 x2 x3 x4 x5 x6 x7 x8 x9 x10 x11 x12 y0 y1 y2 y3 y4 y5 y6 y7 y8 y9 y10 y11 y12; obtain ⟨x0, x1, x2, x3, x4, x5, x6, x7, x8, x9, x10, x11, x12, y0, y1, y2, y3, y4, y5, y6, y7, y8, y9, y10, y11, y12⟩ := HC.out w3 hb3; have hl2 : w.heap.size + 1 < w3.heap.size := Nat.lt_of_lt_of_le hl2 hb3.size; clear hb3)
  | (go_at_call 76; (with_reducible refine (HTU.out _ HB3.out).mono ?_); rintro e w4 ⟨rfl, hb4⟩; have HB4 := Lib.hid hb4; clear x0 x1 x2 x3 x4 x5 x6 x7 x8 x9 x10 x11 x12 y0 y1 y2 y3 y4 y5 y6 y7 y8 y9 y10 y11 y12; obtain ⟨x0, x1, x2, x3, x4, x5, x6, x7, x8, x9, x10, x11, x12, y0, y1, y2, y3, y4, y5, y6, y7, y8, y9, y10, y11, y12⟩ := HC.out w4 hb4; have hl2 : w.heap.size + 1 < w4.heap.size := by { have h1 := HZ.out; have h2 := hb4.size; omega }; clear hb4)
  | (go_at_call 76; (with_reducible refine (HBA.out _ HB4.out).mono ?_); rintro e w5 ⟨rfl, hb5⟩; have HB5 := Lib.hid hb5; clear x0 x1 x2 x3 x4 x5 x6 x7 x8 x9 x10 x11 x12 y0 y1 y2 y3 y4 y5 y6 y7 y8 y9 y10 y11 y12; obtain ⟨x0, x1, x2, x3, x4, x5, x6, x7, x8, x9, x10, x11, x12, y0, y1, y2, y3, y4, y5, y6, y7, y8, y9, y10, y11, y12⟩ := HC.out w5 hb5; have hl2 : w.heap.size + 1 < w5.heap.size := by { have h1 := HZ.out; have h2 := hb5.size; omega }; clear hb5))
 clear x0 x1 x2 x3 x4 x5 x6 x7 x8 x9 x10 x11 x12 y0 y1 y2 y3 y4 y5 y6 y7 y8 y9 y10 y11 y12
 go_loopw [61] (fun i wr => ∃ k : Nat, k ≤ nE ∧ i = .int .i64 k ∧ Below w2.heap.size w2 wr) (fun i _ => nE - (intOf i).toNat)
 case atStart => exact ⟨0, Nat.zero_le _, rfl, HB5.out⟩
 case round =>
  obtain ⟨k, hk, rfl, hbr⟩ := hrel
  have HBR := Lib.hid hbr
  obtain ⟨k1, k2, k3, k4, k5, k6, k7⟩ := HCE.out wr hbr
  by_cases hlt : k < nE
  · obtain ⟨x, hx⟩ := get_at' HLE.out hlt
    obtain ⟨x0, x1, x2, x3, x4, x5, x6, x7, x8, x9, x10, x11, x12, y0, y1, y2, y3, y4, y5, y6, y7, y8, y9, y10, y11, y12⟩ := HC.out wr hbr
    have hlr : w.heap.size + 1 < wr.heap.size := by { have h1 := HZ.out; have h2 := hbr.size; omega }
    have l1 : w.heap.size < wr.heap.size := by omega
    obtain ⟨b1, o1, u2, un2, uc2, u3, un3, uc3, rfl, hs1, p0, p1, p2, p3, hr1⟩ := texit_at k3.exits hx
    obtain ⟨b2, o2, v2, vn2, vc2, v3, vn3, vc3, rfl, hs2, q0, q1, q2, q3, hr2⟩ := texit_at k4.exits hx
    have hlb1 := k5 b1 hs1; have hlb2 := k6 b2 hs2
    have HSM : Hid (∀ d : Drift wr, Calls Tryd.prog 76 #[.agg #[.int .i64 x.At, .int .i64 x.Steps, .slice u2 un2 uc2, .slice u3 un3 uc3], .agg #[.int .i64 x.At, .int .i64 x.Steps, .slice v2 vn2 vc2, .slice v3 vn3 vc3]] d.val fun e w' => e = .returned (.bool true) ∧ Below d.val.heap.size d.val w') := fun d => by
     have hd : Below w2.heap.size w2 d.val := HBR.out.trans (d.below.mono HBR.out.size)
     have h := sameExit_any (X := #[.int .i64 x.At, .int .i64 x.Steps, .slice u2 un2 uc2, .slice u3 un3 uc3]) (Y := #[.int .i64 x.At, .int .i64 x.Steps, .slice v2 vn2 vc2, .slice v3 vn3 vc3]) (Rep.keep (fun b hb => d.below.block b (k5 b hb)) hr1) (Rep.keep (fun b hb => d.below.block b (k6 b hb)) hr2) (fun b hb => Nat.lt_of_lt_of_le (k5 b hb) d.below.size) (fun b hb => Nat.lt_of_lt_of_le (k6 b hb) d.below.size)
     rw [decide_eq_true rfl] at h
     exact h
    clear k1 k2 k3 k4 k5 k6 k7 hx hs1 hs2 hr1 hr2 x0 x1 x2 x3 x5 x6 x7 x8 x9 x10 x11 x12 y0 y1 y2 y3 y5 y6 y7 y8 y9 y10 y11 y12
    go_wp2_with fail
    first | (refine wp_region_drift_lit (by kernel_rfl) (by kernel_rfl) (fun hdr => ?_); (repeat (go_big_quiet_step ((go_at_call 76; with_reducible exact drift_of (HSM.out _))))); refine wpQuiet_nil ?_; intro wq hw'; obtain ⟨⟨wd, hbd⟩, hw''⟩ := hw'; dsimp only at hw''; subst wq; clear hdr)
    go_wp2_with fail
    go_roundw
    case rel => exact ⟨k + 1, by omega, by go_num, HBR.out.trans (hbd.mono HBR.out.size)⟩
    case measure => simp [intOf]; omega
  · have HEN := Lib.hid k7
    clear hbr k1 k2 k3 k4 k5 k6 k7
    go_wp2_with fail
    go_ret
    exact ⟨rfl, HEN.out⟩
end Go.Proofs.YtekofpigmggbbaaDoor.cut
