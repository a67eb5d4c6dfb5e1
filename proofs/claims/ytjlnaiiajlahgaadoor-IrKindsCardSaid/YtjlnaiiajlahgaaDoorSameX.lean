/- The document's: are two exits the same: walked. -/
import Derived.Test.YtjlnaiiajlahgaaDoorChkD
import Derived.Deep.QuietTactic
set_option linter.unusedVariables false
set_option linter.unusedSimpArgs false
namespace Go.Proofs.YtjlnaiiajlahgaaDoor.chk
open Go.Bk Go.RowKit Go.Proofs.YtjlnaiiajlahgaaDoor.ir


def SameG {α : Type} (xs ys : List α) (k : Nat) : Prop := ∀ i, i < k → xs[i]? = ys[i]?
theorem SameG.succ {α : Type} {xs ys : List α} {k : Nat} (h : SameG xs ys k) (he : xs[k]? = ys[k]?) : SameG xs ys (k + 1) := fun i hi => by
  by_cases e : i = k
  · rw [e]; exact he
  · exact h i (by omega)
theorem SameG.all {α : Type} {xs ys : List α} {k : Nat} (h : SameG xs ys k) (h1 : xs.length = k) (h2 : ys.length = k) : xs = ys := List.ext_getElem? fun i => by
  by_cases hi : i < k
  · exact h i hi
  · rw [List.getElem?_eq_none (by omega), List.getElem?_eq_none (by omega)]
theorem get_at' {α : Type} {l : List α} {n k : Nat} (hn : l.length = n) (h : k < n) : ∃ x, l[k]? = some x := ⟨_, List.getElem?_eq_getElem (by omega)⟩
theorem ne_at {α : Type} {xs ys : List α} {k : Nat} {x y : α} (hx : xs[k]? = some x) (hy : ys[k]? = some y) (h : ¬ x = y) : ¬ xs = ys := fun e => by rw [e, hy] at hx; exact h (Option.some.inj hx).symm
set_option maxRecDepth 100000 in
theorem eqSet_any {S1 S2 : Nat → Prop} {w : World} {a1 a2 : Option Addr} {c1 c2 n1 n2 : Nat} {xs ys : List Api.TSet} (hn1 : xs.length = n1) (hn2 : ys.length = n2) (h1 : Arr S1 w a1 xs) (h2 : Arr S2 w a2 ys) (hS1 : ∀ b, S1 b → b < w.heap.size) (hS2 : ∀ b, S2 b → b < w.heap.size) :
    Calls Tryd.prog 74 #[.slice a1 n1 c1, .slice a2 n2 c2] w fun e w' => e = .returned (.bool (decide (xs = ys))) ∧ Below w.heap.size w w' := by
  have hm1 := h1.small; have hm2 := h2.small
  rw [hn1] at hm1; rw [hn2] at hm2
  unfold maxLen at hm1 hm2
  have H1 := Lib.hid hn1; have H2 := Lib.hid hn2
  have HA1 := Lib.hid h1; have HA2 := Lib.hid h2; have HS1 := Lib.hid hS1; have HS2 := Lib.hid hS2
  have HRF : Hid (Below w.heap.size w w) := Below.refl _ _
  clear hn1 hn2 h1 h2 hS1 hS2
  by_cases hl : n1 = n2
  · subst hl
    have hb : ((n1 : Int) != (n1 : Int)) = false := by simp
    go_enter Tryd.func74, Tryd.ntmps74
    go_wp2_with fail
    go_loopw [14] (fun i w' => ∃ k : Nat, k ≤ n1 ∧ i = .int .i64 k ∧ SameG xs ys k ∧ Below w.heap.size w w') (fun i _ => n1 - (intOf i).toNat)
    case atStart => exact ⟨0, Nat.zero_le _, rfl, fun i hi => by omega, HRF.out⟩
    case round =>
      obtain ⟨k, hk, rfl, hsm, hbr⟩ := hrel
      have HB := Lib.hid hsm; have HBR := Lib.hid hbr
      clear hsm
      by_cases hlt : k < n1
      · obtain ⟨x, hx⟩ := get_at' H1.out hlt
        obtain ⟨y, hy⟩ := get_at' H2.out hlt
        obtain ⟨b1, o1, rfl, hs1, p0, p1, -⟩ := api_TSet_elem (HA1.out.keep (w' := wr) fun b hb => hbr.block b (HS1.out b hb)) hx
        obtain ⟨w5, hw5⟩ : ∃ w5, w5 = wr.alloc (.cells #[.int .i64 x.Reg, .int .i64 x.Val] 115) := ⟨_, rfl⟩
        have hb5 : Below wr.heap.size wr w5 := by rw [hw5]; exact cod.below_al2 _
        have HB5 : Hid (Below w.heap.size w w5) := hbr.trans (hb5.mono hbr.size)
        have hrow := row_new wr #[.int .i64 x.Reg, .int .i64 x.Val] 115
        rw [← hw5] at hrow
        obtain ⟨b2, o2, rfl, hs2, q0, q1, -⟩ := api_TSet_elem (HA2.out.keep (w' := w5) fun b hb => HB5.out.block b (HS2.out b hb)) hy
        have hlb1 : b1 < wr.heap.size := Nat.lt_of_lt_of_le (HS1.out b1 hs1) hbr.size
        have z0 := hrow.cell (j := 0) rfl; have z1 := hrow.cell (j := 1) rfl
        have lS := hrow.lt
        have hlb2 : b2 < w5.heap.size := Nat.lt_of_lt_of_le (HS2.out b2 hs2) HB5.out.size
        have HX := Lib.hid hx; have HY := Lib.hid hy
        clear hx hy hbr hb5 hrow hs1 hs2
        go_upto_region 6 with fail
        rw [← hw5]
        clear hw5 p0 p1
        by_cases he : x = y
        · subst he
          have hee1 : (x.Reg == x.Reg) = true := by simp
          have hee2 : (x.Val == x.Val) = true := by simp
          go_quiet (fail)
          go_wp2
          go_roundw
          case rel => exact ⟨k + 1, by omega, by go_num, HB.out.succ (HX.out.trans HY.out.symm), HB5.out.trans (((Quiet.refl _).more _).below _)⟩
          case measure => simp [intOf]; omega
        · have hee3 : (x.Reg == y.Reg) = false ∨ ((x.Reg == y.Reg) = true ∧ (x.Val == y.Val) = false) := by
            obtain ⟨r1, t1⟩ := x
            obtain ⟨r2, t2⟩ := y
            by_cases h1 : r1 = r2 <;> by_cases h2 : t1 = t2 <;> simp_all
          have HNE : Hid (decide (xs = ys) = false) := decide_eq_false (ne_at HX.out HY.out he)
          clear he
          rcases hee3 with d1 | ⟨d1, d2⟩
          all_goals
            go_quiet (fail)
            go_wp2
            go_ret
            exact ⟨by rw [HNE.out]; rfl, HB5.out.trans (((Quiet.refl _).more _).below _)⟩
      · have heq : xs = ys := by
          obtain rfl : k = n1 := by omega
          exact HB.out.all H1.out H2.out
        have HEQ : Hid (decide (xs = ys) = true) := decide_eq_true heq
        clear hbr heq
        go_wp2
        go_ret
        exact ⟨by rw [HEQ.out]; rfl, HBR.out⟩
  · have hb : ((n1 : Int) != (n2 : Int)) = true := by simp; omega
    have HL := Lib.hid hl
    clear hl
    go_enter Tryd.func74, Tryd.ntmps74
    go_wp2
    go_ret
    have hne : xs ≠ ys := fun e => HL.out (by rw [← H1.out, ← H2.out, e])
    exact ⟨by simp [hne], HRF.out⟩
set_option maxRecDepth 100000 in
theorem sameMake_any {S1 S2 : Nat → Prop} {w : World} {x y : Api.TMake} {a1 a2 : Option Addr} {n1 n2 c1 c2 : Nat} (hn1 : x.Vals.length = n1) (hn2 : y.Vals.length = n2) (h1 : Arr S1 w a1 x.Vals) (h2 : Arr S2 w a2 y.Vals) (hS1 : ∀ b, S1 b → b < w.heap.size) (hS2 : ∀ b, S2 b → b < w.heap.size) :
    Calls Tryd.prog 75 #[.agg #[.int .i64 x.Cell, .int .i64 x.Kind, .int .i64 x.Num, .slice a1 n1 c1], .agg #[.int .i64 y.Cell, .int .i64 y.Kind, .int .i64 y.Num, .slice a2 n2 c2]] w fun e w' => e = .returned (.bool (decide (x = y))) ∧ Below w.heap.size w w' := by
  obtain ⟨xc, xk, xn, xv⟩ := x
  obtain ⟨yc, yk, yn, yv⟩ := y
  dsimp only at hn1 hn2 h1 h2 ⊢
  have HE : Hid (decide ((⟨xc, xk, xn, xv⟩ : Api.TMake) = ⟨yc, yk, yn, yv⟩) = ((xc == yc) && ((xk == yk) && ((xn == yn) && decide (xv = yv))))) := by
    show _ = _
    rw [Bool.eq_iff_iff]
    simp
  have HEQ : Hid (∀ W, Below w.heap.size w W → Calls Tryd.prog 20 #[.slice a1 n1 c1, .slice a2 n2 c2] W fun e w' => e = .returned (.bool (decide (xv = yv))) ∧ Below w.heap.size w w') := fun W hb => by
    have k := eq_any (c1 := c1) (c2 := c2) (h1.keep (w' := W) fun b hb' => hb.block b (hS1 b hb')) (h2.keep (w' := W) fun b hb' => hb.block b (hS2 b hb'))
    rw [hn1, hn2] at k
    exact k.mono fun e w' ⟨he, hq⟩ => ⟨he, hb.trans (hq.below _)⟩
  have HAL : Hid (∀ o1 o2, Below w.heap.size w ((w.alloc o1).alloc o2)) := fun o1 o2 => ((Below.refl _ _).alloc (Nat.le_refl _) _).alloc (by simp) _
  clear h1 h2 hn1 hn2 hS1 hS2
  obtain ⟨v, hv⟩ : ∃ v, v = decide (xv = yv) := ⟨_, rfl⟩
  rw [← hv] at HE HEQ
  clear hv
  rcases four (xc == yc) (xk == yk) (xn == yn) true with e1 | ⟨e1, e2⟩ | ⟨e1, e2, e3⟩ | ⟨e1, e2, e3, e4⟩ | ⟨e1, e2, e3, -⟩
  · rw [e1] at HE
    go_enter Tryd.func75, Tryd.ntmps75
    go_wp2
    go_ret
    exact ⟨by rw [HE.out]; rfl, HAL.out _ _⟩
  · rw [e1, e2] at HE
    go_enter Tryd.func75, Tryd.ntmps75
    go_wp2
    go_ret
    exact ⟨by rw [HE.out]; rfl, HAL.out _ _⟩
  · rw [e1, e2, e3] at HE
    go_enter Tryd.func75, Tryd.ntmps75
    go_wp2
    go_ret
    exact ⟨by rw [HE.out]; rfl, HAL.out _ _⟩
  · cases e4
  · rw [e1, e2, e3] at HE
    go_enter Tryd.func75, Tryd.ntmps75
    go_wp2_with (go_at_call 20; (with_reducible refine (HEQ.out _ (HAL.out _ _)).mono ?_); rintro e w2 ⟨rfl, hb2⟩; have HB2 := Lib.hid hb2; clear hb2)
    go_ret
    exact ⟨by rw [HE.out]; rfl, HB2.out⟩
theorem tmake_all {S : Nat → Prop} {w : World} {a : Option Addr} {xs : List Api.TMake} (h : Arr S w a xs) {k : Nat} {x : Api.TMake} (hk : xs[k]? = some x) :
    ∃ (b off : Nat) (a3 : Option Addr) (n3 c3 : Nat), a = some ⟨b, off, none⟩ ∧ S b ∧ w.cell? ⟨b, off + k * 4, none⟩ = some (.int .i64 x.Cell) ∧ w.cell? ⟨b, off + k * 4 + 1, none⟩ = some (.int .i64 x.Kind) ∧ w.cell? ⟨b, off + k * 4 + 2, none⟩ = some (.int .i64 x.Num) ∧ w.cell? ⟨b, off + k * 4 + 3, none⟩ = some (.slice a3 n3 c3) ∧ x.Vals.length = n3 ∧ Arr S w a3 x.Vals := by
  obtain ⟨b, off, a3, c3, ha, hb, h0, h1, h2, h3, -, -, -, h4⟩ := api_TMake_elem h hk
  exact ⟨b, off, a3, _, c3, ha, hb, h0, h1, h2, h3, rfl, h4.2.2⟩
set_option maxRecDepth 100000 in
set_option maxHeartbeats 1000000 in
theorem sameExit_any {S1 S2 : Nat → Prop} {w : World} {X Y : Array Value} {x y : Api.TExit} (hx : Rep.cells S1 w X.toList x) (hy : Rep.cells S2 w Y.toList y) (hS1 : ∀ b, S1 b → b < w.heap.size) (hS2 : ∀ b, S2 b → b < w.heap.size) :
    Calls Tryd.prog 52 #[.agg X, .agg Y] w fun e w' => e = .returned (.bool (decide (x = y))) ∧ Below w.heap.size w w' := by
  obtain ⟨a2, a3, nS, c2, nM, c3, hX⟩ := xin_of hx
  obtain ⟨d2, d3, mS, e2, mM, e3, hY⟩ := xin_of hy
  obtain ⟨xA, xT, xS, xM⟩ := x
  obtain ⟨yA, yT, yS, yM⟩ := y
  have HE : Hid (decide ((⟨xA, xT, xS, xM⟩ : Api.TExit) = ⟨yA, yT, yS, yM⟩) = (!(xA != yA) && (!(xT != yT) && (decide (xS = yS) && decide (xM = yM))))) := by
    show _ = _
    rw [Bool.eq_iff_iff]
    simp
  obtain ⟨res, hres⟩ : ∃ b, b = decide ((⟨xA, xT, xS, xM⟩ : Api.TExit) = ⟨yA, yT, yS, yM⟩) := ⟨_, rfl⟩
  rw [← hres] at HE ⊢
  clear hres
  obtain ⟨w2, hw2⟩ : ∃ w2, w2 = (w.alloc (.cells X 27)).alloc (.cells Y 27) := ⟨_, rfl⟩
  obtain ⟨r1, r2, hb2, hz2⟩ := rows2 w X Y _ _ w2 hw2
  have HCE : Hid (∀ W, Below w2.heap.size w2 W → Row W w.heap.size 27 X ∧ Row W (w.heap.size + 1) 27 Y ∧ XIn S1 W X ⟨xA, xT, xS, xM⟩ a2 a3 nS c2 nM c3 ∧ XIn S2 W Y ⟨yA, yT, yS, yM⟩ d2 d3 mS e2 mM e3 ∧ (∀ b, S1 b → b < W.heap.size) ∧ (∀ b, S2 b → b < W.heap.size) ∧ Below w.heap.size w W) := fun W hb => by
    have hbw : Below w.heap.size w W := hb2.trans (hb.mono hb2.size)
    have hk1 : ∀ b, S1 b → W.heap[b]? = w.heap[b]? := fun b hb' => hbw.block b (hS1 b hb')
    have hk2 : ∀ b, S2 b → W.heap[b]? = w.heap[b]? := fun b hb' => hbw.block b (hS2 b hb')
    exact ⟨r1.keep (hb.block _ r1.lt), r2.keep (hb.block _ r2.lt), ⟨hX.size, hX.c0, hX.c1, hX.c2, hX.c3, hX.sets.keep hk1, hX.makes.keep hk1, hX.lenS, hX.lenM, hX.fewS, hX.fewM⟩, ⟨hY.size, hY.c0, hY.c1, hY.c2, hY.c3, hY.sets.keep hk2, hY.makes.keep hk2, hY.lenS, hY.lenM, hY.fewS, hY.fewM⟩, fun b hb' => Nat.lt_of_lt_of_le (hS1 b hb') hbw.size, fun b hb' => Nat.lt_of_lt_of_le (hS2 b hb') hbw.size, hbw⟩
  have hM9 := hX.fewM; have hmM9 := hY.fewM
  have x0 := r1.cell hX.c0; have x1 := r1.cell hX.c1; have x2 := r1.cell hX.c2; have x3 := r1.cell hX.c3
  have y0 := r2.cell hY.c0; have y1 := r2.cell hY.c1; have y2 := r2.cell hY.c2; have y3 := r2.cell hY.c3
  have l1 := r1.lt; have l2 := r2.lt
  have HH2 : Hid (Below w2.heap.size w2 w2) := Below.refl _ _
  have HEN := Lib.hid hb2
  have HLX := Lib.hid hX.lenM; have HLY := Lib.hid hY.lenM
  obtain ⟨sv, hsv⟩ : ∃ b, b = decide (xS = yS) := ⟨_, rfl⟩
  have HES : Hid (Calls Tryd.prog 74 #[.slice a2 nS c2, .slice d2 mS e2] w2 fun e w' => e = .returned (.bool sv) ∧ Below w2.heap.size w2 w') := by
    obtain ⟨k1, k2, k3, k4, k5, k6, k7⟩ := HCE.out w2 (Below.refl _ _)
    rw [hsv]
    exact eqSet_any k3.lenS k4.lenS k3.sets k4.sets k5 k6
  rw [← hsv] at HE
  clear hsv hx hy hS1 hS2 hX hY r1 r2 hb2 hz2
  dsimp only at x0 x1 y0 y1
  go_enter Tryd.func52, Tryd.ntmps52
  go_upto_region 1 with fail
  rw [← hw2]
  clear hw2
  generalize w.heap.size + 1 = gY at HCE y0 y1 y2 y3 l2 ⊢
  cases e1 : (xA != yA) with
  | true =>
    rw [e1] at HE
    go_wp2_with fail
    go_ret
    exact ⟨by rw [HE.out]; rfl, HEN.out⟩
  | false =>
    rw [e1] at HE
    cases e2 : (xT != yT) with
    | true =>
      rw [e2] at HE
      go_wp2_with fail
      go_ret
      exact ⟨by rw [HE.out]; rfl, HEN.out⟩
    | false =>
      rw [e2] at HE
      have HC4 : Hid (∀ W, Below w2.heap.size w2 W → W.cell? ⟨w.heap.size, 3, none⟩ = some (.slice a3 nM c3) ∧ W.cell? ⟨gY, 3, none⟩ = some (.slice d3 mM e3) ∧ w.heap.size < W.heap.size ∧ gY < W.heap.size) := fun W hb => by
        obtain ⟨k1, k2, k3, k4, k5, k6, k7⟩ := HCE.out W hb
        exact ⟨k1.cell k3.c3, k2.cell k4.c3, k1.lt, k2.lt⟩
      cases sv with
      | false =>
        go_wp2_with (go_at_call 74; (with_reducible refine HES.out.mono ?_); rintro e w3 ⟨rfl, hb3⟩; have HB3 := Lib.hid hb3; clear hb3)
        go_ret
        exact ⟨by rw [HE.out]; rfl, (HCE.out _ HB3.out).2.2.2.2.2.2⟩
      | true =>
        have HE2 : Hid (res = decide (xM = yM)) := by show _ = _; rw [HE.out]; rfl
        by_cases hl : nM = mM
        · subst hl
          have hb : ((nM : Int) != (nM : Int)) = false := by simp
          go_wp2_with (go_at_call 74; (with_reducible refine HES.out.mono ?_); rintro e w3 ⟨rfl, hb3⟩; have HB3 := Lib.hid hb3; obtain ⟨s1, s2, s3, s4⟩ := HC4.out _ hb3; clear hb3)
          go_loopw [38] (fun i w' => ∃ k : Nat, k ≤ nM ∧ i = .int .i64 k ∧ SameG xM yM k ∧ Below w2.heap.size w2 w') (fun i _ => nM - (intOf i).toNat)
          case atStart => exact ⟨0, Nat.zero_le _, rfl, fun i hi => by omega, HB3.out⟩
          case round =>
            obtain ⟨k, hk, rfl, hsm, hbr⟩ := hrel
            have HB := Lib.hid hsm; have HBR := Lib.hid hbr
            clear hsm s1 s2 s3 s4
            obtain ⟨k1, k2, k3, k4, k5, k6, k7⟩ := HCE.out wr hbr
            by_cases hlt : k < nM
            · obtain ⟨u, hu⟩ := get_at' (show xM.length = nM from HLX.out) hlt
              obtain ⟨v, hv⟩ := get_at' (show yM.length = nM from HLY.out) hlt
              have s1 := k1.cell k3.c3; have s2 := k2.cell k4.c3
              have l1 := k1.lt; have l2 := k2.lt
              obtain ⟨b1, o1, v3, n3, c3', rfl, hs1, p0, p1, p2, p3, hv1, hv2⟩ := tmake_all k3.makes hu
              obtain ⟨b2, o2, u3, m3, c3'', rfl, hs2, q0, q1, q2, q3, hu1, hu2⟩ := tmake_all k4.makes hv
              have hlb1 := k5 b1 hs1; have hlb2 := k6 b2 hs2
              obtain ⟨sm, hsm⟩ : ∃ b, b = decide (u = v) := ⟨_, rfl⟩
              have HSM : Hid (∀ d : Drift wr, Calls Tryd.prog 75 #[.agg #[.int .i64 u.Cell, .int .i64 u.Kind, .int .i64 u.Num, .slice v3 n3 c3'], .agg #[.int .i64 v.Cell, .int .i64 v.Kind, .int .i64 v.Num, .slice u3 m3 c3'']] d.val fun e w' => e = .returned (.bool sm) ∧ Below d.val.heap.size d.val w') := fun d => by
                rw [hsm]
                exact sameMake_any hv1 hu1 (hv2.keep fun b hb => d.below.block b (k5 b hb)) (hu2.keep fun b hb => d.below.block b (k6 b hb)) (fun b hb => Nat.lt_of_lt_of_le (k5 b hb) d.below.size) (fun b hb => Nat.lt_of_lt_of_le (k6 b hb) d.below.size)
              have HU := Lib.hid hu; have HV := Lib.hid hv; have HSMD := Lib.hid hsm
              clear k1 k2 k3 k4 k5 k6 k7 hu hv hsm hv1 hv2 hu1 hu2 hs1 hs2
              cases sm with
              | false =>
                have HNE : Hid (decide (xM = yM) = false) := decide_eq_false (ne_at HU.out HV.out (of_decide_eq_false HSMD.out.symm))
                go_wp2_with fail
                first | (refine wp_region_drift_lit (by kernel_rfl) (by kernel_rfl) (fun hdr => ?_); (repeat (go_big_quiet_step ((go_at_call 75; with_reducible exact drift_of (HSM.out _))))); refine wpQuiet_nil ?_; intro wq hw'; obtain ⟨⟨wd, hbd⟩, hw''⟩ := hw'; dsimp only at hw''; subst wq; clear hdr)
                go_wp2_with fail
                go_ret
                exact ⟨by rw [HE2.out, HNE.out]; rfl, (HCE.out _ (HBR.out.trans (hbd.mono HBR.out.size))).2.2.2.2.2.2⟩
              | true =>
                have HEQ2 : Hid (u = v) := by show u = v; exact of_decide_eq_true HSMD.out.symm
                go_wp2_with fail
                first | (refine wp_region_drift_lit (by kernel_rfl) (by kernel_rfl) (fun hdr => ?_); (repeat (go_big_quiet_step ((go_at_call 75; with_reducible exact drift_of (HSM.out _))))); refine wpQuiet_nil ?_; intro wq hw'; obtain ⟨⟨wd, hbd⟩, hw''⟩ := hw'; dsimp only at hw''; subst wq; clear hdr)
                go_wp2_with fail
                go_roundw
                case rel => exact ⟨k + 1, by omega, by go_num, HB.out.succ (by rw [HU.out, HV.out, HEQ2.out]), HBR.out.trans (hbd.mono HBR.out.size)⟩
                case measure => simp [intOf]; omega
            · have heq : xM = yM := by
                obtain rfl : k = nM := by omega
                exact HB.out.all HLX.out HLY.out
              have HEQ : Hid (decide (xM = yM) = true) := decide_eq_true heq
              have HEN7 := Lib.hid k7
              clear hbr heq k1 k2 k3 k4 k5 k6 k7
              go_wp2_with fail
              go_ret
              exact ⟨by rw [HE2.out, HEQ.out]; rfl, HEN7.out⟩
        · have hb : ((nM : Int) != (mM : Int)) = true := by simp; omega
          have HNE : Hid (decide (xM = yM) = false) := decide_eq_false fun e => hl (by rw [← HLX.out, ← HLY.out]; show xM.length = yM.length; rw [e])
          clear hl
          go_wp2_with (go_at_call 74; (with_reducible refine HES.out.mono ?_); rintro e w3 ⟨rfl, hb3⟩; have HB3 := Lib.hid hb3; obtain ⟨s1, s2, s3, s4⟩ := HC4.out _ hb3; clear hb3)
          go_ret
          exact ⟨by rw [HE2.out, HNE.out]; rfl, (HCE.out _ HB3.out).2.2.2.2.2.2⟩
end Go.Proofs.YtjlnaiiajlahgaaDoor.chk
