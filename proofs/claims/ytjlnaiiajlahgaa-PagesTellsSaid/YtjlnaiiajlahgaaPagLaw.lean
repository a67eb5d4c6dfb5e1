/- The law PagesTells, walked: the two answers are one. -/
import Derived.Test.YtjlnaiiajlahgaaPagX
import Derived.Deep.DeepCutAuto
set_option linter.unusedVariables false
set_option linter.unusedSimpArgs false
namespace Go.Proofs.Ytjlnaiiajlahgaa.pag
open Go.Bk Go.RowKit

theorem opens_four : Opens Try.prog 64 Four := Opens.arr4 Try.underlying64 (by kernel_rfl) Try.opens3
theorem opens_fours : Opens Try.prog 22 (List Four) := Opens.slice Try.underlying22 (by kernel_rfl) (by decide) opens_four
theorem opens_store : Opens Try.prog 26 (List Four × List Int × List (List Int)) :=
  Opens.struct Try.underlying26 (by kernel_rfl) (OpensAt.cons 0 1 opens_fours (OpensAt.cons 1 2 Try.opens23 (OpensAt.last 2 Try.opens24) rfl) rfl) rfl
theorem getRes_two (s : Store) (a at' : Int) : (getRes s a at').2 = ask s a at' := by
  unfold getRes
  split
  · rfl
  · rename_i h
    show (0 : Int) = _
    omega
theorem thrs_two (s : Store) (a b : Int) : thrs s [a, b] = if thrs s [a] = 0 then thrs s [b] else thrs s [a] := by
  unfold thrs
  by_cases h : chk s = 0
  · cases ha : bad s a <;> cases hb : bad s b <;> simp [ha, hb, h]
  · simp [h]
theorem shRes_two (s : Store) (a b : Int) : (shRes s a b).2 = if thrs s [a] = 0 then thrs s [b] else thrs s [a] := by
  rw [← thrs_two]
  unfold shRes
  split
  · rfl
  · rename_i h
    show (0 : Int) = _
    omega
theorem StAt.lens {S S2 : Nat → Prop} {w w2 : World} {aP aU aR bP bU bR : Option Addr} {nP nU nR kP kU kR : Nat} {s : Store} (h : StAt S w aP aU aR nP nU nR s) (h2 : StAt S2 w2 bP bU bR kP kU kR s) : kP = nP ∧ kU = nU ∧ kR = nR :=
  ⟨h2.lenP.symm.trans h.lenP, h2.lenU.symm.trans h.lenU, h2.lenR.symm.trans h.lenR⟩
abbrev row3 (aP aU aR : Option Addr) (nP nU nR cP cU cR : Nat) : List Value := [.slice aP nP cP, .slice aU nU cU, .slice aR nR cR]
theorem _root_.Go.Bk.Blk.far {w w' : World} {g g' : Nat} {e : TypeId} {cs : List Value} (h : Blk w g e cs) (hg : w.grownBy w' (some g')) (hne : g ≠ g') : Blk w' g e cs := h.keep (hg.block _ h.lt (fun e => by cases e; exact hne rfl))
/-- A box with a store whose rows lie behind B. -/
structure One (B : Nat) (w : World) (g : Nat) (s : Store) (pP pU pR : Option Addr) (kP kU kR cP cU cR : Nat) : Prop where
  box : Blk w g 26 [.slice pP kP cP, .slice pU kU cU, .slice pR kR cR]
  st : ∃ S, StAt S w pP pU pR kP kU kR s ∧ ∀ b, S b → B ≤ b ∧ b < w.heap.size
theorem One.below {B : Nat} {w w' : World} {g : Nat} {s : Store} {pP pU pR : Option Addr} {kP kU kR cP cU cR : Nat} (h : One B w g s pP pU pR kP kU kR cP cU cR) (hb : RowKit.Below w.heap.size w w') : One B w' g s pP pU pR kP kU kR cP cU cR := by
  obtain ⟨hx, S, hst, hS⟩ := h
  exact ⟨hx.keep (hb.block _ hx.lt), S, hst.keep (fun b hb' => hb.block b (hS b hb').2), fun b hb' => ⟨(hS b hb').1, Nat.lt_of_lt_of_le (hS b hb').2 hb.size⟩⟩
theorem One.other {B g' : Nat} {w w' : World} {g : Nat} {s : Store} {pP pU pR : Option Addr} {kP kU kR cP cU cR : Nat} (h : One B w g s pP pU pR kP kU kR cP cU cR) (hg : w.grownBy w' (some g')) (h1 : g' < B) (h2 : g ≠ g') : One B w' g s pP pU pR kP kU kR cP cU cR := by
  obtain ⟨hx, S, hst, hS⟩ := h
  exact ⟨hx.keep (hg.block _ hx.lt (fun e => by cases e; exact h2 rfl)), S, hst.keep (fun b hb' => hg.block b (hS b hb').2 (fun e => by cases e; have := (hS _ hb').1; omega)), fun b hb' => ⟨(hS b hb').1, Nat.lt_of_lt_of_le (hS b hb').2 hg.size⟩⟩
theorem One.zero {B : Nat} {w : World} {g : Nat} (h : Blk w g 26 [.slice none 0 0, .slice none 0 0, .slice none 0 0]) : One B w g ⟨[], [], []⟩ none none none 0 0 0 0 0 0 :=
  ⟨h, fun _ => False, nil_at _ _, fun _ h => h.elim⟩
/-- What a callee made, stored in a box that was there. -/
theorem One.stored {B : Nat} {w w' : World} {g : Nat} {s : Store} {x y z : Value} {pP pU pR : Option Addr} {kP kU kR cP cU cR : Nat} (hb : Blk w' g 26 [x, y, z]) (hst : StAt (Fresh w w') w' pP pU pR kP kU kR s) (hB : B ≤ w.heap.size) (hg : g < B) :
    One B (((w'.setCell ⟨g, 0, none⟩ (.slice pP kP cP)).setCell ⟨g, 1, none⟩ (.slice pU kU cU)).setCell ⟨g, 2, none⟩ (.slice pR kR cR)) g s pP pU pR kP kU kR cP cU cR := by
  have hgr : w'.grownBy (((w'.setCell ⟨g, 0, none⟩ (.slice pP kP cP)).setCell ⟨g, 1, none⟩ (.slice pU kU cU)).setCell ⟨g, 2, none⟩ (.slice pR kR cR)) (some g) := grownBy_setCell (grownBy_setCell (grownBy_setCell (World.grownBy.refl _ _) _ _) _ _) _ _
  exact ⟨((hb.set 0 _).set 1 _).set 2 _, Fresh w w', hst.keep (fun b hb' => hgr.block b hb'.2 (fun e => by cases e; have := hb'.1; omega)), fun b hb' => ⟨Nat.le_trans hB hb'.1, Nat.lt_of_lt_of_le hb'.2 hgr.size⟩⟩
set_option maxRecDepth 100000 in
set_option maxHeartbeats 4000000 in
theorem pagesTells_walk (W : World) (args : Array Value) (h : ArgsRead Try.prog W [26, 3, 3, 3, 3] args.toList) :
    Calls Try.prog 3 args W fun e W' => e = .returned (.bool true) ∧ RowKit.Below W.heap.size W W' := by
  obtain ⟨v0, v1, v2, v3, v4, rfl, r0, r1, r2, r3, r4⟩ := h.five
  obtain ⟨cs, ⟨ps, us, rs⟩, rfl, hc⟩ := r0.struct Try.underlying26 opens_store
  obtain ⟨_, _, ⟨aP, cP, rfl, hcP, hnP, hAP⟩, ⟨_, _, ⟨aU, cU, rfl, hcU, hnU, hAU⟩, ⟨aR, cR, rfl, hcR, hnR, hAR⟩, rfl⟩, rfl⟩ := hc
  obtain ⟨a, rfl, ia⟩ := r1.int Try.underlying3
  obtain ⟨b, rfl, ib⟩ := r2.int Try.underlying3
  obtain ⟨at', rfl, iat⟩ := r3.int Try.underlying3
  obtain ⟨v, rfl, iv⟩ := r4.int Try.underlying3
  clear r0 r1 r2 r3 r4 h
  obtain ⟨s, hs⟩ : ∃ s : Store, s = ⟨ps, us, rs⟩ := ⟨_, rfl⟩
  have hST : StAt (· < W.heap.size) W aP aU aR ps.length us.length rs.length s := by subst hs; exact ⟨hAP, hAU, hAR, rfl, rfl, rfl⟩
  obtain ⟨nP, hP⟩ : ∃ n, n = ps.length := ⟨_, rfl⟩
  obtain ⟨nU, hU⟩ : ∃ n, n = us.length := ⟨_, rfl⟩
  obtain ⟨nR, hR⟩ : ∃ n, n = rs.length := ⟨_, rfl⟩
  show Calls Try.prog 3 #[stV aP aU aR ps.length us.length rs.length cP cU cR, .int .i64 a, .int .i64 b, .int .i64 at', .int .i64 v] W _
  rw [← hP, ← hU, ← hR] at hST ⊢
  clear hs hP hU hR hAP hAU hAR hcP hcU hcR hnR
  have HST : Hid (∀ w, RowKit.Below W.heap.size W w → StAt (· < W.heap.size) w aP aU aR nP nU nR s) := fun w hb => hST.below (fun b hb => hb) hb
  have hlt : ∀ w, RowKit.Below W.heap.size W w → ∀ b, b < W.heap.size → b < w.heap.size := fun w hb b h => Nat.lt_of_lt_of_le h hb.size
  have HGET : Hid (∀ w, RowKit.Below W.heap.size W w → Calls Try.prog 6 #[stV aP aU aR nP nU nR cP cU cR, .int .i64 a, .int .i64 at'] w fun e w' => e = .returned (.tuple #[.int .i64 (getRes s a at').1, .int .i64 (ask s a at')]) ∧ RowKit.Below w.heap.size w w') := fun w hb => by
    rw [← getRes_two]; exact get_any (HST.out w hb) (hlt w hb) ia
  have HSET : Hid (∀ w, RowKit.Below W.heap.size W w → Calls Try.prog 7 #[stV aP aU aR nP nU nR cP cU cR, .int .i64 a, .int .i64 at', .int .i64 v] w (SetPost w s a at' v)) := fun w hb => set_any (HST.out w hb) (hlt w hb) ia iv hnP hnU
  have HDRP : Hid (∀ w, RowKit.Below W.heap.size W w → Calls Try.prog 8 #[stV aP aU aR nP nU nR cP cU cR, .int .i64 a] w (DropPost w s a)) := fun w hb => drop_any (HST.out w hb) (hlt w hb) ia hnP hnU
  have HSHR : Hid (∀ w, RowKit.Below W.heap.size W w → Calls Try.prog 9 #[stV aP aU aR nP nU nR cP cU cR, .int .i64 a, .int .i64 b] w fun e w' => e = .returned (.tuple #[.int .i64 (shRes s a b).1, .int .i64 (shRes s a b).2]) ∧ RowKit.Below w.heap.size w w') := fun w hb => shared_any (HST.out w hb) (hlt w hb) ia ib
  have HCHK : Hid (∀ w, RowKit.Below W.heap.size W w → Calls Try.prog 16 #[stV aP aU aR nP nU nR cP cU cR] w fun e w' => e = .returned (.int .i64 (chk s)) ∧ RowKit.Below w.heap.size w w') := fun w hb => check_any (HST.out w hb) (hlt w hb)
  have HRCK : Hid (∀ w, RowKit.Below W.heap.size W w → Calls Try.prog 10 #[stV aP aU aR nP nU nR cP cU cR] w fun e w' => e = .returned (.int .i64 (chk s)) ∧ RowKit.Below w.heap.size w w') := fun w hb => pcheck_any (HST.out w hb) (hlt w hb)
  have HRTH : Hid (∀ w r, RowKit.Below W.heap.size W w → Calls Try.prog 11 #[stV aP aU aR nP nU nR cP cU cR, .int .i64 r] w fun e w' => e = .returned (.int .i64 (thrs s [r])) ∧ RowKit.Below w.heap.size w w') := fun w r hb => pthere_any (HST.out w hb) (hlt w hb)
  have HI : Hid (I64 v) := iv
  clear hST ia ib iat iv hnU hlt
  have hb5 := blk_new W [.slice aP nP cP, .slice aU nU cU, .slice aR nR cR] 26
  have HL1 : Hid (RowKit.Below W.heap.size W (W.alloc (.cells #[.slice aP nP cP, .slice aU nU cU, .slice aR nR cR] 26))) := (RowKit.Below.refl _ _).alloc (Nat.le_refl _) _
  have HB1 := Lib.hid hb5
  go_enter Try.func3, Try.ntmps3
  go_upto_region 1 with fail
  generalize W.alloc (.cells #[.slice aP nP cP, .slice aU nU cU, .slice aR nR cR] 26) = w1 at *
  have x0 := hb5.cell (j := 0) rfl; have x1 := hb5.cell (j := 1) rfl; have x2 := hb5.cell (j := 2) rfl
  clear hb5
  go_upto_region 5 with (first
    | (go_at_call 6; (with_reducible refine (HGET.out _ HL1.out).mono ?_); rintro e w2 ⟨rfl, hb⟩; have HL2 := Lib.hid (HL1.out.trans (hb.mono HL1.out.size)); have HB2 := Lib.hid (HB1.out.keep (hb.block _ HB1.out.lt)); have y0 := HB2.out.cell (j := 0) rfl; have y1 := HB2.out.cell (j := 1) rfl; have y2 := HB2.out.cell (j := 2) rfl; clear hb)
    | (go_at_call 7; (with_reducible refine (HSET.out _ HL2.out).mono ?_); rintro e w3 ⟨tP, tU, tR, kP, kU, kR, dP, dU, dR, rfl, hst, hb⟩; have HT3 := Lib.hid hst; have HL3 : Hid (RowKit.Below W.heap.size W (w3.alloc (.cells #[.slice tP kP dP, .slice tU kU dU, .slice tR kR dR] 26))) := (HL2.out.trans (hb.mono HL2.out.size)).alloc (HL2.out.trans (hb.mono HL2.out.size)).size _; have HB3 := Lib.hid (blk_al (o := .cells #[.slice tP kP dP, .slice tU kU dU, .slice tR kR dR] 26) (HB2.out.keep (hb.block _ HB2.out.lt))); have HX13 := Lib.hid (blk_new w3 [.slice tP kP dP, .slice tU kU dU, .slice tR kR dR] 26); have z0 := HB3.out.cell (j := 0) rfl; have z1 := HB3.out.cell (j := 1) rfl; have z2 := HB3.out.cell (j := 2) rfl; clear hb hst)
    | (go_at_call 8; (with_reducible refine (HDRP.out _ HL3.out).mono ?_); rintro e w4 ⟨rP, rU, rR, mP, mU, mR, oP, oU, oR, rfl, hst, hb⟩; have HT4 := Lib.hid hst; have HO4 := Lib.hid hb; have HL4 : Hid (RowKit.Below W.heap.size W (w4.alloc (.cells #[.slice rP mP oP, .slice rU mU oU, .slice rR mR oR] 26))) := (HL3.out.trans (hb.mono HL3.out.size)).alloc (HL3.out.trans (hb.mono HL3.out.size)).size _; have HB4 := Lib.hid (blk_al (o := .cells #[.slice rP mP oP, .slice rU mU oU, .slice rR mR oR] 26) (HB3.out.keep (hb.block _ HB3.out.lt))); have HX16 := Lib.hid (blk_new w4 [.slice rP mP oP, .slice rU mU oU, .slice rR mR oR] 26); have v0 := HB4.out.cell (j := 0) rfl; have v1 := HB4.out.cell (j := 1) rfl; have v2 := HB4.out.cell (j := 2) rfl; clear hb hst)
    | (go_at_call 9; (with_reducible refine (HSHR.out _ HL4.out).mono ?_); rintro e w5 ⟨rfl, hb⟩; have HL5 := Lib.hid (HL4.out.trans (hb.mono HL4.out.size)); have HO5 := Lib.hid hb; have HB5 := Lib.hid (HB4.out.keep (hb.block _ HB4.out.lt)); clear hb))
  clear x0 x1 x2 y0 y1 y2 z0 z1 z2 v0 v1 v2 HB1 HB2 HB3 HB4
  have H13 : Hid (∀ w, RowKit.Below w5.heap.size w5 w → Blk w w3.heap.size 26 [.slice tP kP dP, .slice tU kU dU, .slice tR kR dR] ∧ StAt (Fresh w2 w3) w tP tU tR kP kU kR (setRes s a at' v).1 ∧ ∀ b, Fresh w2 w3 b → b < w.heap.size) := fun w hb => by
    have h1 : RowKit.Below (w3.alloc (.cells #[.slice tP kP dP, .slice tU kU dU, .slice tR kR dR] 26)).heap.size (w3.alloc (.cells #[.slice tP kP dP, .slice tU kU dU, .slice tR kR dR] 26)) (w4.alloc (.cells #[.slice rP mP oP, .slice rU mU oU, .slice rR mR oR] 26)) := HO4.out.alloc HO4.out.size _
    have h2 := h1.trans (HO5.out.mono h1.size)
    have h3 := h2.trans (hb.mono h2.size)
    have hz : (w3.alloc (.cells #[.slice tP kP dP, .slice tU kU dU, .slice tR kR dR] 26)).heap.size = w3.heap.size + 1 := by simp
    have h4 := h3.size
    exact ⟨HX13.out.keep (h3.block _ HX13.out.lt), (HT3.out.keep (fun b hb => Below.heap_alloc _ _ b hb.2)).keep (fun b hb => h3.block b (by rw [hz]; have := hb.2; omega)), fun b hb => by have := hb.2; omega⟩
  have H16 : Hid (∀ w, RowKit.Below w5.heap.size w5 w → Blk w w4.heap.size 26 [.slice rP mP oP, .slice rU mU oU, .slice rR mR oR] ∧ StAt (Fresh (w3.alloc (.cells #[.slice tP kP dP, .slice tU kU dU, .slice tR kR dR] 26)) w4) w rP rU rR mP mU mR (dropRes s a) ∧ ∀ b, Fresh (w3.alloc (.cells #[.slice tP kP dP, .slice tU kU dU, .slice tR kR dR] 26)) w4 b → b < w.heap.size) := fun w hb => by
    have h3 := HO5.out.trans (hb.mono HO5.out.size)
    have hz : (w4.alloc (.cells #[.slice rP mP oP, .slice rU mU oU, .slice rR mR oR] 26)).heap.size = w4.heap.size + 1 := by simp
    have h4 := h3.size
    exact ⟨HX16.out.keep (h3.block _ HX16.out.lt), (HT4.out.keep (fun b hb => Below.heap_alloc _ _ b hb.2)).keep (fun b hb => h3.block b (by rw [hz]; have := hb.2; omega)), fun b hb => by have := hb.2; omega⟩
  have HDK : Hid (∀ d : Drift w5, Calls Try.prog 10 #[stV aP aU aR nP nU nR cP cU cR] d.val fun e w' => e = .returned (.int .i64 (chk s)) ∧ RowKit.Below d.val.heap.size d.val w') := fun d => HRCK.out d.val (HL5.out.trans (d.below.mono HL5.out.size))
  have HDT : Hid (∀ d : Drift w5, Calls Try.prog 11 #[stV aP aU aR nP nU nR cP cU cR, .int .i64 a] d.val fun e w' => e = .returned (.int .i64 (thrs s [a])) ∧ RowKit.Below d.val.heap.size d.val w') := fun d => HRTH.out d.val a (HL5.out.trans (d.below.mono HL5.out.size))
  have hlt5 : W.heap.size < w5.heap.size := HB5.out.lt
  have x0 := HB5.out.cell (j := 0) rfl; have x1 := HB5.out.cell (j := 1) rfl; have x2 := HB5.out.cell (j := 2) rfl
  clear HX13 HX16 HT3 HT4 HO4 HO5 HL1 HL2 HL3 HL4 HGET HSET HDRP HSHR
  first | (refine wp_region_drift_lit (by kernel_rfl) (by kernel_rfl) (fun hdr => ?_); (repeat (go_big_quiet_step ((first | (go_at_call 10; exact drift_of (HDK.out _)) | (go_at_call 11; exact drift_of (HDT.out _)))))); refine wpQuiet_nil ?_; intro wq hw'; obtain ⟨⟨wd, hbd⟩, hw''⟩ := hw'; dsimp only at hw''; subst wq; clear hdr)
  have HLD := Lib.hid (HL5.out.trans (hbd.mono HL5.out.size))
  have HBD := Lib.hid (HB5.out.keep (hbd.block _ HB5.out.lt))
  have HWD := Lib.hid hbd
  clear hbd x0 x1 x2 hlt5 HDK HDT
  obtain ⟨tt, htt⟩ : ∃ tt, tt = thrs s [a] := ⟨_, rfl⟩
  obtain ⟨ak, hak⟩ : ∃ ak, ak = ask s a at' := ⟨_, rfl⟩
  obtain ⟨gt, hgt⟩ : ∃ gt, gt = (getRes s a at').1 := ⟨_, rfl⟩
  obtain ⟨sn, hsn⟩ : ∃ sn, sn = (setRes s a at' v).2.1 := ⟨_, rfl⟩
  obtain ⟨so, hso⟩ : ∃ so, so = (setRes s a at' v).2.2 := ⟨_, rfl⟩
  obtain ⟨sv, hsv⟩ : ∃ sv, sv = (setRes s a at' v).1 := ⟨_, rfl⟩
  obtain ⟨hn, hhn⟩ : ∃ hn, hn = (shRes s a b).1 := ⟨_, rfl⟩
  obtain ⟨ho, hho⟩ : ∃ ho, ho = (shRes s a b).2 := ⟨_, rfl⟩
  obtain ⟨dv, hdv⟩ : ∃ dv, dv = dropRes s a := ⟨_, rfl⟩
  obtain ⟨cc, hcc⟩ : ∃ cc, cc = chk s := ⟨_, rfl⟩
  rw [← htt, ← hak, ← hgt, ← hsn, ← hso, ← hhn, ← hho, ← hcc]
  rw [← hsv] at H13
  rw [← hdv] at H16
  rw [← hcc] at HCHK
  have HE : Hid (tt = thrs s [a] ∧ ak = ask s a at' ∧ gt = (getRes s a at').1 ∧ sn = (setRes s a at' v).2.1 ∧ so = (setRes s a at' v).2.2 ∧ sv = (setRes s a at' v).1 ∧ hn = (shRes s a b).1 ∧ ho = (shRes s a b).2 ∧ dv = dropRes s a) := ⟨htt, hak, hgt, hsn, hso, hsv, hhn, hho, hdv⟩
  clear htt hak hgt hsn hso hsv hhn hho hdv hcc HB5
  go_upto_if 68 with fail
  have hN1 : (wd.alloc (.cells #[.slice none 0 0, .slice none 0 0, .slice none 0 0] 26)).heap.size = wd.heap.size + 1 := by simp
  have HZ25 : Hid (Blk ((wd.alloc (.cells #[.slice none 0 0, .slice none 0 0, .slice none 0 0] 26)).alloc (.cells #[.slice none 0 0, .slice none 0 0, .slice none 0 0] 26)) wd.heap.size 26 [.slice none 0 0, .slice none 0 0, .slice none 0 0]) := blk_al (blk_new wd [.slice none 0 0, .slice none 0 0, .slice none 0 0] 26)
  have HZ26 : Hid (Blk ((wd.alloc (.cells #[.slice none 0 0, .slice none 0 0, .slice none 0 0] 26)).alloc (.cells #[.slice none 0 0, .slice none 0 0, .slice none 0 0] 26)) (wd.heap.size + 1) 26 [.slice none 0 0, .slice none 0 0, .slice none 0 0]) := by
    have := blk_new (wd.alloc (.cells #[.slice none 0 0, .slice none 0 0, .slice none 0 0] 26)) [.slice none 0 0, .slice none 0 0, .slice none 0 0] 26
    rwa [hN1] at this
  have HW6 : Hid (RowKit.Below wd.heap.size wd ((wd.alloc (.cells #[.slice none 0 0, .slice none 0 0, .slice none 0 0] 26)).alloc (.cells #[.slice none 0 0, .slice none 0 0, .slice none 0 0] 26))) := ((RowKit.Below.refl _ _).alloc (Nat.le_refl _) _).alloc (by simp) _
  generalize (wd.alloc (.cells #[.slice none 0 0, .slice none 0 0, .slice none 0 0] 26)).alloc (.cells #[.slice none 0 0, .slice none 0 0, .slice none 0 0] 26) = w6 at *
  have HN : Hid (W.heap.size < wd.heap.size) := HBD.out.lt
  go_cut [22, 23, 24, 27, 28, 29] (fun s22 s23 s24 s27 s28 s29 wz => s22 = .int .i64 ak ∧ s23 = .int .i64 so ∧ s24 = .int .i64 ho ∧ s27 = .int .i64 gt ∧ s28 = .int .i64 sn ∧ s29 = .int .i64 hn ∧ (∃ pP pU pR kP' kU' kR' c1 c2 c3, One (wd.heap.size + 2) wz wd.heap.size sv pP pU pR kP' kU' kR' c1 c2 c3) ∧ (∃ pP pU pR kP' kU' kR' c1 c2 c3, One (wd.heap.size + 2) wz (wd.heap.size + 1) dv pP pU pR kP' kU' kR' c1 c2 c3) ∧ RowKit.Below wd.heap.size wd wz)
  case first =>
    by_cases h0 : tt = 0
    case neg =>
      have d1 : (tt == 0) = false := by simp [h0]
      have HV : Hid (ak = tt ∧ so = tt ∧ ho = tt ∧ gt = 0 ∧ sn = 0 ∧ hn = 0 ∧ sv = ⟨[], [], []⟩ ∧ dv = ⟨[], [], []⟩) := by
        obtain ⟨e1, e2, e3, e4, e5, e6, e7, e8, e9⟩ := HE.out
        have k1 : ask s a at' = tt := by unfold ask; rw [← e1, if_pos h0]
        have k2 : setRes s a at' v = (⟨[], [], []⟩, 0, tt) := by unfold setRes; rw [k1, if_neg h0]
        have k3 : thrs s [a, b] = tt := by rw [thrs_two, ← e1, if_neg h0]
        refine ⟨e2.trans k1, by rw [e5, k2], by rw [e8, shRes_two, ← e1, if_neg h0], ?_, by rw [e4, k2], ?_, by rw [e6, k2], ?_⟩
        · rw [e3]; unfold getRes; rw [k1, if_pos h0]
        · rw [e7]; unfold shRes; rw [k3, if_pos h0]
        · rw [e9]; unfold dropRes; rw [← e1, if_neg h0]
      clear h0
      go_wp2_with fail
      go_meet
      obtain ⟨e1, e2, e3, e4, e5, e6, e7, e8⟩ := HV.out
      rw [e1, e2, e3, e4, e5, e6, e7, e8]
      exact ⟨rfl, rfl, rfl, rfl, rfl, rfl, ⟨_, _, _, _, _, _, _, _, _, One.zero HZ25.out⟩, ⟨_, _, _, _, _, _, _, _, _, One.zero HZ26.out⟩, HW6.out⟩
    case pos =>
    subst h0
    have e1 := HE.out.1
    have hch := thrs_zero e1.symm
    obtain ⟨q, r, rfl, hT⟩ := there_of hch.1 (hch.2 a (by simp))
    have HT := Lib.hid hT
    have hlt : ∀ w, RowKit.Below W.heap.size W w → ∀ b, b < W.heap.size → b < w.heap.size := fun w hb b h => Nat.lt_of_lt_of_le h hb.size
    have HDQ : Hid (dv = countedOf (dropped s q) ∧ ho = thrs s [b]) := ⟨by rw [HE.out.2.2.2.2.2.2.2.2]; unfold dropRes; rw [if_pos e1.symm]; rfl, by rw [HE.out.2.2.2.2.2.2.2.1, shRes_two, if_pos e1.symm]⟩
    have HPD : Hid (∀ w, RowKit.Below W.heap.size W w → Calls Try.prog 14 #[stV aP aU aR nP nU nR cP cU cR, .int .i64 q] w (StoPost w dv)) := fun w hb => by rw [HDQ.out.1]; exact pdrop_any (HST.out w hb) (hlt w hb) HT.out
    have HPB : Hid (∀ w, RowKit.Below W.heap.size W w → Calls Try.prog 11 #[stV aP aU aR nP nU nR cP cU cR, .int .i64 b] w fun e w' => e = .returned (.int .i64 ho) ∧ RowKit.Below w.heap.size w w') := fun w hb => by rw [HDQ.out.2]; exact HRTH.out w b hb
    have HB5c := Lib.hid (HBD.out.keep (HW6.out.block _ HBD.out.lt))
    have HLc := Lib.hid (HLD.out.trans (HW6.out.mono HLD.out.size))
    have HOc : Hid (One (wd.heap.size + 2) w6 wd.heap.size ⟨[], [], []⟩ none none none 0 0 0 0 0 0) := One.zero HZ25.out
    have HWc := HW6
    have HZc := HZ26
    have x0 := HB5c.out.cell (j := 0) rfl; have x1 := HB5c.out.cell (j := 1) rfl; have x2 := HB5c.out.cell (j := 2) rfl
    have d0 : ((0 : Int) == 0) = true := rfl
    have hhs : (ho = 0 ∧ (ho == 0) = true ∧ ∃ (q2 : Nat) (t : List Int), b = (q2 : Int) ∧ There s q2 t ∧ hn = sharedOf r t 16) ∨ (ho ≠ 0 ∧ (ho == 0) = false ∧ hn = 0) := by
      have e7 := HE.out.2.2.2.2.2.2.1
      by_cases h : ho = 0
      · refine .inl ⟨h, by simp [h], ?_⟩
        have hz : thrs s [b] = 0 := by rw [← HDQ.out.2]; exact h
        have hcb := thrs_zero hz
        obtain ⟨q2, t, rfl, hT2⟩ := there_of hcb.1 (hcb.2 b (by simp))
        refine ⟨q2, t, rfl, hT2, ?_⟩
        rw [e7]
        unfold shRes
        rw [thrs_two, if_pos e1.symm, if_neg (fun h2 => h2 hz), rowAt_there HT.out, rowAt_there hT2]
      · refine .inr ⟨h, by simp [h], ?_⟩
        rw [e7]
        unfold shRes
        rw [thrs_two, if_pos e1.symm, if_pos (by rw [← HDQ.out.2]; exact h)]
    have hats : ((decide (at' < 0) = true ∨ (decide (at' < 0) = false ∧ decide (63 < at') = true)) ∧ ak = 1 ∧ so = 1 ∧ gt = 0 ∧ sn = 0 ∧ sv = ⟨[], [], []⟩) ∨ (decide (at' < 0) = false ∧ decide (63 < at') = false ∧ ak = 0 ∧ gt = getOf s q at' ∧ setOf s q at' v = (sv, sn, so) ∧ 0 ≤ at' ∧ at' < 64) := by
      obtain ⟨-, e2, e3, e4, e5, e6, -⟩ := HE.out
      by_cases h : at' < 0 ∨ 64 ≤ at'
      · left
        have k1 : ask s q at' = 1 := by unfold ask; rw [if_neg (fun h2 => h2 e1.symm), if_pos h]
        have k2 : setRes s q at' v = (⟨[], [], []⟩, 0, 1) := by unfold setRes; rw [k1]; rfl
        refine ⟨?_, e2.trans k1, by rw [e5, k2], ?_, by rw [e4, k2], by rw [e6, k2]⟩
        · simp only [decide_eq_true_eq, decide_eq_false_iff_not]; omega
        · rw [e3]; unfold getRes; rw [k1]; rfl
      · right
        have k1 : ask s q at' = 0 := by unfold ask; rw [if_neg (fun h2 => h2 e1.symm), if_neg h]
        have k2 : setRes s q at' v = setOf s q at' v := by unfold setRes; rw [k1, if_pos rfl]
        refine ⟨decide_eq_false (by omega), decide_eq_false (by omega), e2.trans k1, ?_, ?_, by omega, by omega⟩
        · rw [e3]; unfold getRes; rw [k1]; rfl
        · rw [e4, e5, e6, k2]
    have HSH : Hid (∀ (q2 : Nat) t w, There s q2 t → hn = sharedOf r t 16 → RowKit.Below W.heap.size W w → Calls Try.prog 15 #[stV aP aU aR nP nU nR cP cU cR, .int .i64 q, .int .i64 q2] w fun e w' => e = .returned (.int .i64 hn) ∧ RowKit.Below w.heap.size w w') := fun q2 t w h1 h2 hb => by rw [h2]; exact pshared_any (HST.out w hb) (hlt w hb) HT.out h1
    have HGS : Hid (∀ w, 0 ≤ at' → at' < 64 → gt = getOf s q at' → setOf s q at' v = (sv, sn, so) → RowKit.Below W.heap.size W w → Calls Try.prog 12 #[stV aP aU aR nP nU nR cP cU cR, .int .i64 q, .int .i64 at'] w (fun e w' => e = .returned (.int .i64 gt) ∧ RowKit.Below w.heap.size w w') ∧
        Calls Try.prog 13 #[stV aP aU aR nP nU nR cP cU cR, .int .i64 q, .int .i64 at', .int .i64 v] w (fun e w' => ∃ pP pU pR lP lU lR c1 c2 c3, e = .returned (.tuple #[stV pP pU pR lP lU lR c1 c2 c3, .int .i64 sn, .int .i64 so]) ∧ StAt (Fresh w w') w' pP pU pR lP lU lR sv ∧ RowKit.Below w.heap.size w w')) := fun w h1 h2 h3 h4 hb => by
      refine ⟨by rw [h3]; exact pget_any (HST.out w hb) (hlt w hb) HT.out h1 h2, ?_⟩
      have h5 := pset_any (cP := cP) (cU := cU) (cR := cR) (HST.out w hb) (hlt w hb) HT.out h1 h2 HI.out hnP
      unfold PSetPost at h5
      rw [h4] at h5
      exact h5
    have HSC : Hid (∀ (w w' : World) (g : Nat) x y z, wd.heap.size ≤ g → RowKit.Below wd.heap.size wd w → RowKit.Below w.heap.size w w' → RowKit.Below wd.heap.size wd (((w'.setCell ⟨g, 0, none⟩ x).setCell ⟨g, 1, none⟩ y).setCell ⟨g, 2, none⟩ z)) := fun w w' g x y z hg h1 h2 =>
      (((h1.trans (h2.mono h1.size)).setCell (p := ⟨g, 0, none⟩) hg x).setCell (p := ⟨g, 1, none⟩) hg y).setCell (p := ⟨g, 2, none⟩) hg z
    have HGR : Hid (∀ (w' : World) (g : Nat) x y z, w'.grownBy (((w'.setCell ⟨g, 0, none⟩ x).setCell ⟨g, 1, none⟩ y).setCell ⟨g, 2, none⟩ z) (some g)) := fun w' g x y z => grownBy_setCell (grownBy_setCell (grownBy_setCell (World.grownBy.refl _ _) _ _) _ _) _ _
    have HWL : Hid (∀ w, RowKit.Below wd.heap.size wd w → RowKit.Below W.heap.size W w ∧ Blk w W.heap.size 26 [.slice aP nP cP, .slice aU nU cU, .slice aR nR cR]) := fun w hb => ⟨HLD.out.trans (hb.mono HLD.out.size), HBD.out.keep (hb.block _ HBD.out.lt)⟩
    have HW2 : Hid (wd.heap.size + 2 ≤ w6.heap.size) := HZ26.out.lt
    clear hch hT e1 hlt HE
    rcases hats with ⟨hat, hv⟩ | ⟨d1, d2, hk, hg, hso, ha1, ha2⟩
    · have HV := Lib.hid hv
      clear hv
      have hds : (decide (at' < 0) || decide (63 < at')) = true := by rcases hat with d1 | ⟨d1, d2⟩ <;> simp [*]
      rcases hat with d1 | ⟨d1, d2⟩
      all_goals
        rcases hhs with ⟨h0, d4, q2, t, rfl, hT2, hsh⟩ | ⟨h0, d4, hsh⟩
        all_goals
          have HH := Lib.hid h0
          have HSS := Lib.hid hsh
          try have HT2 := Lib.hid hT2
          try clear hT2
          clear hsh h0
          go_wp2_with (first
            | (go_at_call 14; (with_reducible refine (HPD.out _ HLc.out).mono ?_); rintro e w9 ⟨qP, qU, qR, mP2, mU2, mR2, i1, i2, i3, rfl, hst, hb⟩; have hz := HZc.out.keep (hb.block _ HZc.out.lt); have HDc := Lib.hid (One.stored (B := wd.heap.size + 2) (g := wd.heap.size + 1) (cP := i1) (cU := i2) (cR := i3) hz hst HZc.out.lt (by show _ < _; omega)); have HOc := Lib.hid ((HOc.out.below hb).other (HGR.out w9 (wd.heap.size + 1) (.slice qP mP2 i1) (.slice qU mU2 i2) (.slice qR mR2 i3)) (by show _ < _; omega) (by show _ ≠ _; omega)); have HWc := Lib.hid (HSC.out _ w9 (wd.heap.size + 1) (.slice qP mP2 i1) (.slice qU mU2 i2) (.slice qR mR2 i3) (Nat.le_succ _) HWc.out hb); have HLc := Lib.hid (HWL.out _ HWc.out).1; have HB5c := Lib.hid (HWL.out _ HWc.out).2; have x0 := HB5c.out.cell (j := 0) rfl; have x1 := HB5c.out.cell (j := 1) rfl; have x2 := HB5c.out.cell (j := 2) rfl; have g0 := hz.cell (j := 0) rfl; have g1 := hz.cell (j := 1) rfl; have g2 := hz.cell (j := 2) rfl; have f0 := hz.frozen 0; have f1 := hz.frozen 1; have f2 := hz.frozen 2; have hrl := hz.lt; clear hb hst hz)
            | (go_at_call 11; (with_reducible refine (HPB.out _ HLc.out).mono ?_); rintro e w10 ⟨rfl, hb⟩; have HOc := Lib.hid (HOc.out.below hb); have HDc := Lib.hid (HDc.out.below hb); have HWc := Lib.hid (HWc.out.trans (hb.mono HWc.out.size)); have HLc := Lib.hid (HWL.out _ HWc.out).1; have HB5c := Lib.hid (HWL.out _ HWc.out).2; have x0 := HB5c.out.cell (j := 0) rfl; have x1 := HB5c.out.cell (j := 1) rfl; have x2 := HB5c.out.cell (j := 2) rfl; clear hb)
            | (go_at_call 15; (with_reducible refine (HSH.out _ _ _ HT2.out HSS.out HLc.out).mono ?_); rintro e w11 ⟨rfl, hb⟩; have HOc := Lib.hid (HOc.out.below hb); have HDc := Lib.hid (HDc.out.below hb); have HWc := Lib.hid (HWc.out.trans (hb.mono HWc.out.size)); clear hb))
          go_meet
          obtain ⟨e1, e2, e3, e4, e5⟩ := HV.out
          rw [e1, e2, e3, e4, e5]
          exact ⟨rfl, rfl, by first | rfl | rw [HH.out], rfl, rfl, by first | rfl | rw [HSS.out], ⟨_, _, _, _, _, _, _, _, _, HOc.out⟩, ⟨_, _, _, _, _, _, _, _, _, HDc.out⟩, HWc.out⟩
    · have HK := Lib.hid hk
      have HGQ := Lib.hid (fun w hb => HGS.out w ha1 ha2 hg hso hb)
      clear hk hg hso
      rcases hhs with ⟨h0, d4, q2, t, rfl, hT2, hsh⟩ | ⟨h0, d4, hsh⟩
      all_goals
        have HH := Lib.hid h0
        have HSS := Lib.hid hsh
        try have HT2 := Lib.hid hT2
        try clear hT2
        clear hsh h0
        go_wp2_with (first
          | (go_at_call 12; (with_reducible refine (HGQ.out _ HLc.out).1.mono ?_); rintro e w7 ⟨rfl, hb⟩; have HWc := Lib.hid (HWc.out.trans (hb.mono HWc.out.size)); have HLc := Lib.hid (HWL.out _ HWc.out).1; have HB5c := Lib.hid (HWL.out _ HWc.out).2; have HZ25 := Lib.hid (HZ25.out.keep (hb.block _ HZ25.out.lt)); have HZc := Lib.hid (HZc.out.keep (hb.block _ HZc.out.lt)); have x0 := HB5c.out.cell (j := 0) rfl; have x1 := HB5c.out.cell (j := 1) rfl; have x2 := HB5c.out.cell (j := 2) rfl; clear hb)
          | (go_at_call 13; (with_reducible refine (HGQ.out _ HLc.out).2.mono ?_); rintro e w8 ⟨pP, pU, pR, lP, lU, lR, c1, c2, c3, rfl, hst, hb⟩; have hz := HZ25.out.keep (hb.block _ HZ25.out.lt); have HOc := Lib.hid (One.stored (B := wd.heap.size + 2) (g := wd.heap.size) (cP := c1) (cU := c2) (cR := c3) hz hst HZc.out.lt (by show _ < _; omega)); have HZc := Lib.hid ((HZc.out.keep (hb.block _ HZc.out.lt)).far (HGR.out w8 wd.heap.size (.slice pP lP c1) (.slice pU lU c2) (.slice pR lR c3)) (Nat.succ_ne_self _)); have HWc := Lib.hid (HSC.out _ w8 wd.heap.size (.slice pP lP c1) (.slice pU lU c2) (.slice pR lR c3) (Nat.le_refl _) HWc.out hb); have HLc := Lib.hid (HWL.out _ HWc.out).1; have HB5c := Lib.hid (HWL.out _ HWc.out).2; have x0 := HB5c.out.cell (j := 0) rfl; have x1 := HB5c.out.cell (j := 1) rfl; have x2 := HB5c.out.cell (j := 2) rfl; have g0 := hz.cell (j := 0) rfl; have g1 := hz.cell (j := 1) rfl; have g2 := hz.cell (j := 2) rfl; have f0 := hz.frozen 0; have f1 := hz.frozen 1; have f2 := hz.frozen 2; have hrl := hz.lt; clear hb hst hz)
          | (go_at_call 14; (with_reducible refine (HPD.out _ HLc.out).mono ?_); rintro e w9 ⟨qP, qU, qR, mP2, mU2, mR2, i1, i2, i3, rfl, hst, hb⟩; have hz := HZc.out.keep (hb.block _ HZc.out.lt); have HDc := Lib.hid (One.stored (B := wd.heap.size + 2) (g := wd.heap.size + 1) (cP := i1) (cU := i2) (cR := i3) hz hst HZc.out.lt (by show _ < _; omega)); have HOc := Lib.hid ((HOc.out.below hb).other (HGR.out w9 (wd.heap.size + 1) (.slice qP mP2 i1) (.slice qU mU2 i2) (.slice qR mR2 i3)) (by show _ < _; omega) (by show _ ≠ _; omega)); have HWc := Lib.hid (HSC.out _ w9 (wd.heap.size + 1) (.slice qP mP2 i1) (.slice qU mU2 i2) (.slice qR mR2 i3) (Nat.le_succ _) HWc.out hb); have HLc := Lib.hid (HWL.out _ HWc.out).1; have HB5c := Lib.hid (HWL.out _ HWc.out).2; have x0 := HB5c.out.cell (j := 0) rfl; have x1 := HB5c.out.cell (j := 1) rfl; have x2 := HB5c.out.cell (j := 2) rfl; have g0 := hz.cell (j := 0) rfl; have g1 := hz.cell (j := 1) rfl; have g2 := hz.cell (j := 2) rfl; have f0 := hz.frozen 0; have f1 := hz.frozen 1; have f2 := hz.frozen 2; have hrl := hz.lt; clear hb hst hz)
            | (go_at_call 11; (with_reducible refine (HPB.out _ HLc.out).mono ?_); rintro e w10 ⟨rfl, hb⟩; have HOc := Lib.hid (HOc.out.below hb); have HDc := Lib.hid (HDc.out.below hb); have HWc := Lib.hid (HWc.out.trans (hb.mono HWc.out.size)); have HLc := Lib.hid (HWL.out _ HWc.out).1; have HB5c := Lib.hid (HWL.out _ HWc.out).2; have x0 := HB5c.out.cell (j := 0) rfl; have x1 := HB5c.out.cell (j := 1) rfl; have x2 := HB5c.out.cell (j := 2) rfl; clear hb)
            | (go_at_call 15; (with_reducible refine (HSH.out _ _ _ HT2.out HSS.out HLc.out).mono ?_); rintro e w11 ⟨rfl, hb⟩; have HOc := Lib.hid (HOc.out.below hb); have HDc := Lib.hid (HDc.out.below hb); have HWc := Lib.hid (HWc.out.trans (hb.mono HWc.out.size)); clear hb))
        go_meet
        exact ⟨by rw [HK.out], rfl, by first | rfl | rw [HH.out], rfl, rfl, by first | rfl | rw [HSS.out], ⟨_, _, _, _, _, _, _, _, _, HOc.out⟩, ⟨_, _, _, _, _, _, _, _, _, HDc.out⟩, HWc.out⟩
  case rest =>
    obtain ⟨rfl, rfl, rfl, rfl, rfl, rfl, ⟨pP, pU, pR, kP', kU', kR', c1, c2, c3, h25⟩, ⟨qP, qU, qR, mP', mU', mR', e1, e2, e3, h26⟩, hbz⟩ := hcut
    have h5z : RowKit.Below w5.heap.size w5 wc := HWD.out.trans (hbz.mono HWD.out.size)
    obtain ⟨g1, g2, g3⟩ := H13.out wc h5z
    obtain ⟨g4, g5, g6⟩ := H16.out wc h5z
    obtain ⟨S25, i2, i3⟩ := h25.st
    obtain ⟨S26, j2, j3⟩ := h26.st
    obtain ⟨rfl, rfl, rfl⟩ := StAt.lens g2 i2
    obtain ⟨rfl, rfl, rfl⟩ := StAt.lens g5 j2
    have HLZ : Hid (RowKit.Below W.heap.size W wc) := HLD.out.trans (hbz.mono HLD.out.size)
    have HBX : Hid (∀ w, RowKit.Below wc.heap.size wc w → Blk w w3.heap.size 26 [.slice tP kP' dP, .slice tU kU' dU, .slice tR kR' dR] ∧ Blk w wd.heap.size 26 [.slice pP kP' c1, .slice pU kU' c2, .slice pR kR' c3] ∧ Blk w w4.heap.size 26 [.slice rP mP' oP, .slice rU mU' oU, .slice rR mR' oR] ∧ Blk w (wd.heap.size + 1) 26 [.slice qP mP' e1, .slice qU mU' e2, .slice qR mR' e3] ∧
        Calls Try.prog 17 #[stV tP tU tR kP' kU' kR' dP dU dR, stV pP pU pR kP' kU' kR' c1 c2 c3] w (fun e w' => e = .returned (.bool true) ∧ RowKit.Below w.heap.size w w') ∧ Calls Try.prog 17 #[stV rP rU rR mP' mU' mR' oP oU oR, stV qP qU qR mP' mU' mR' e1 e2 e3] w (fun e w' => e = .returned (.bool true) ∧ RowKit.Below w.heap.size w w')) := fun w hb =>
      ⟨g1.keep (hb.block _ g1.lt), h25.box.keep (hb.block _ h25.box.lt), g4.keep (hb.block _ g4.lt), h26.box.keep (hb.block _ h26.box.lt),
        store_true (g2.keep fun b hb' => hb.block b (g3 b hb')) (i2.keep fun b hb' => hb.block b (i3 b hb').2) (fun b hb' => Nat.lt_of_lt_of_le (g3 b hb') hb.size) (fun b hb' => Nat.lt_of_lt_of_le (i3 b hb').2 hb.size),
        store_true (g5.keep fun b hb' => hb.block b (g6 b hb')) (j2.keep fun b hb' => hb.block b (j3 b hb').2) (fun b hb' => Nat.lt_of_lt_of_le (g6 b hb') hb.size) (fun b hb' => Nat.lt_of_lt_of_le (j3 b hb').2 hb.size)⟩
    have hb5 := HBD.out.keep (hbz.block _ HBD.out.lt)
    have x0 := hb5.cell (j := 0) rfl; have x1 := hb5.cell (j := 1) rfl; have x2 := hb5.cell (j := 2) rfl
    have k1 : (cc == cc) = true := by simp
    have k2 : (gt == gt) = true := by simp
    have k3 : (ak == ak) = true := by simp
    have k4 : (sn == sn) = true := by simp
    have k5 : (so == so) = true := by simp
    have k6 : (tt == tt) = true := by simp
    have k7 : (hn == hn) = true := by simp
    have k8 : (ho == ho) = true := by simp
    clear g1 g2 g3 g4 g5 g6 h25 h26 i2 i3 j2 j3 h5z hbz hb5 HE HZ25 HZ26 HW6 HRCK HRTH HI H13 H16 HST
    go_wp2_with (first
      | (go_at_call 16; (with_reducible refine (HCHK.out _ HLZ.out).mono ?_); rintro e w10 ⟨rfl, hb⟩; have HB10 := Lib.hid hb; (obtain ⟨y1, y2, -, -, hc1, -⟩ := HBX.out w10 hb); have HC1 := Lib.hid hc1; have a0 := y1.cell (j := 0) rfl; have a1 := y1.cell (j := 1) rfl; have a2 := y1.cell (j := 2) rfl; have b0 := y2.cell (j := 0) rfl; have b1 := y2.cell (j := 1) rfl; have b2 := y2.cell (j := 2) rfl; clear y1 y2 hc1 hb)
      | (go_at_call 17; (with_reducible refine HC2.out.mono ?_); rintro e w12 ⟨rfl, hb⟩; have HB12 := Lib.hid hb; clear hb)
      | (go_at_call 17; (with_reducible refine HC1.out.mono ?_); rintro e w11 ⟨rfl, hb⟩; have HB11 := Lib.hid (HB10.out.trans (hb.mono HB10.out.size)); (obtain ⟨-, -, y1, y2, -, hc2⟩ := HBX.out w11 HB11.out); have HC2 := Lib.hid hc2; have a0 := y1.cell (j := 0) rfl; have a1 := y1.cell (j := 1) rfl; have a2 := y1.cell (j := 2) rfl; have b0 := y2.cell (j := 0) rfl; have b1 := y2.cell (j := 1) rfl; have b2 := y2.cell (j := 2) rfl; clear y1 y2 hc2 hb))
    go_ret
    have h1 := HLZ.out.trans (HB11.out.mono HLZ.out.size)
    exact ⟨rfl, h1.trans (HB12.out.mono h1.size)⟩
end Go.Proofs.Ytjlnaiiajlahgaa.pag
