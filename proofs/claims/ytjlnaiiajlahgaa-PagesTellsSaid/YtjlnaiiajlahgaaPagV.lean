/- PagesTells: Set: walked. -/
import Derived.Test.YtjlnaiiajlahgaaPagT
import Derived.Test.YtjlnaiiajlahgaaPagU
import Derived.Test.YtjlnaiiajlahgaaPagQ
set_option linter.unusedVariables false
set_option linter.unusedSimpArgs false
namespace Go.Proofs.Ytjlnaiiajlahgaa.pag
open Go.Bk Go.RowKit

def sRel (w : World) (g B R : Nat) (vP vU vR : Value) (hs : List Hd) (ps : List Four) (us : List Int) (rs : List (List Int)) (la : Option Addr) (lc : Nat) (l : List Int) (v56 : Value) (w' : World) : Prop :=
  ∃ k : Nat, k ≤ 16 ∧ v56 = .int .i64 k ∧ SetSt w w' g B R vP vU vR hs ⟨ps, incTo us l k, rs⟩ la lc l
theorem part4_set (x : Four) (j : Nat) (v : Int) : (fourV x).set j (.int .i64 v) = fourV (set4 x j v) ∨ 4 ≤ j := by
  match j with
  | 0 => exact .inl rfl
  | 1 => exact .inl rfl
  | 2 => exact .inl rfl
  | 3 => exact .inl rfl
  | j + 4 => exact .inr (by omega)
theorem fourV_at (x : Four) {j : Nat} (hj : j < 4) : (fourV x)[j]? = some (.int .i64 (part4 x j)) := by
  match j, hj with
  | 0, _ => rfl
  | 1, _ => rfl
  | 2, _ => rfl
  | 3, _ => rfl
theorem set4_I64 {x : Four} {v : Int} (j : Nat) (h : I64 x.1 ∧ I64 x.2.1 ∧ I64 x.2.2.1 ∧ I64 x.2.2.2) (hv : I64 v) : I64 (set4 x j v).1 ∧ I64 (set4 x j v).2.1 ∧ I64 (set4 x j v).2.2.1 ∧ I64 (set4 x j v).2.2.2 := by
  obtain ⟨h1, h2, h3, h4⟩ := h
  unfold set4
  split
  · exact ⟨hv, h2, h3, h4⟩
  · exact ⟨h1, hv, h3, h4⟩
  · exact ⟨h1, h2, hv, h4⟩
  · exact ⟨h1, h2, h3, hv⟩
theorem pageOf_I64 {s : Store} (h : ∀ x ∈ s.pages, I64 x.1 ∧ I64 x.2.1 ∧ I64 x.2.2.1 ∧ I64 x.2.2.2) (root at' : Int) : I64 (pageOf s root at').1 ∧ I64 (pageOf s root at').2.1 ∧ I64 (pageOf s root at').2.2.1 ∧ I64 (pageOf s root at').2.2.2 := by
  have h0 : I64 zero4.1 ∧ I64 zero4.2.1 ∧ I64 zero4.2.2.1 ∧ I64 zero4.2.2.2 := ⟨by show I64 0; unfold I64; omega, by show I64 0; unfold I64; omega, by show I64 0; unfold I64; omega, by show I64 0; unfold I64; omega⟩
  unfold pageOf pageP
  split
  · cases e : s.pages[(((rowAt s root)[(at' / 4).toNat]?).getD (-1)).toNat]? with
    | none => exact h0
    | some x => exact h x (List.mem_of_getElem? e)
  · exact h0
theorem num_I64 {s : Store} (h : s.uses.length ≤ 1000) (p : Four) : I64 (newNum s p) := by
  have := free_le s.uses
  unfold newNum I64
  split <;> omega
set_option maxRecDepth 100000 in
set_option maxHeartbeats 8000000 in
theorem set_any {S : Nat → Prop} {w : World} {aP aU aR : Option Addr} {nP nU nR cP cU cR : Nat} {s : Store} {root at' v : Int} (h : StAt S w aP aU aR nP nU nR s) (hS : ∀ b, S b → b < w.heap.size) (hr : I64 root) (hv : I64 v) (hnP : aP = none → cP = 0) (hnU : aU = none → cU = 0) :
    Calls Try.prog 7 #[stV aP aU aR nP nU nR cP cU cR, .int .i64 root, .int .i64 at', .int .i64 v] w (SetPost w s root at' v) := by
  have HL : Hid (s.pages.length = nP ∧ s.uses.length = nU ∧ s.roots.length = nR) := ⟨h.lenP, h.lenU, h.lenR⟩
  have e1 : (w.alloc (.cells #[.slice aP nP cP, .slice aU nU cU, .slice aR nR cR] 26)).heap.size = w.heap.size + 1 := by simp
  have b1 : Blk (w.alloc (.cells #[.slice aP nP cP, .slice aU nU cU, .slice aR nR cR] 26)) w.heap.size 26 [.slice aP nP cP, .slice aU nU cU, .slice aR nR cR] := blk_new w _ _
  have b2 : Blk ((w.alloc (.cells #[.slice aP nP cP, .slice aU nU cU, .slice aR nR cR] 26)).alloc (.cells #[.slice none 0 0, .slice none 0 0, .slice none 0 0] 26)) (w.heap.size + 1) 26 [.slice none 0 0, .slice none 0 0, .slice none 0 0] := by
    have := blk_new (w.alloc (.cells #[.slice aP nP cP, .slice aU nU cU, .slice aR nR cR] 26)) [.slice none 0 0, .slice none 0 0, .slice none 0 0] 26
    rwa [e1] at this
  have hbel : RowKit.Below w.heap.size w ((w.alloc (.cells #[.slice aP nP cP, .slice aU nU cU, .slice aR nR cR] 26)).alloc (.cells #[.slice none 0 0, .slice none 0 0, .slice none 0 0] 26)) := ((RowKit.Below.refl _ _).alloc (Nat.le_refl _) _).alloc (by simp) _
  have HC : Hid (Calls Try.prog 30 #[stV aP aU aR nP nU nR cP cU cR, .int .i64 root, .int .i64 at'] ((w.alloc (.cells #[.slice aP nP cP, .slice aU nU cU, .slice aR nR cR] 26)).alloc (.cells #[.slice none 0 0, .slice none 0 0, .slice none 0 0] 26)) (fun e w1 => e = .returned (.int .i64 (ask s root at')) ∧ Blk w1 w.heap.size 26 [.slice aP nP cP, .slice aU nU cU, .slice aR nR cR] ∧ Blk w1 (w.heap.size + 1) 26 [.slice none 0 0, .slice none 0 0, .slice none 0 0] ∧ RowKit.Below w.heap.size w w1)) :=
    (asked_any (h.below hS hbel) (fun b hb => Nat.lt_of_lt_of_le (hS b hb) hbel.size) hr).mono fun e w1 ⟨he, hb⟩ => by
      have c1 := blk_al (o := .cells #[.slice none 0 0, .slice none 0 0, .slice none 0 0] 26) b1
      exact ⟨he, blk_call hb c1, blk_call hb b2, hbel.trans (hb.mono hbel.size)⟩
  obtain ⟨c, hc⟩ : ∃ c, c = ask s root at' := ⟨_, rfl⟩
  have HC0 := Lib.hid hc
  rw [← hc] at HC
  by_cases h0 : c = 0
  case neg =>
    have d1 : (c == 0) = false := by simp [h0]
    have HF : Hid (setRes s root at' v = (⟨[], [], []⟩, 0, c)) := by show _ = _; unfold setRes; rw [if_neg (by rw [← hc]; exact h0), hc]
    clear h hS hr hv hc h0 b1 b2 hbel e1
    go_enter Try.func7, Try.ntmps7
    go_wp2_with (go_at_call 30; (with_reducible refine HC.out.mono ?_); rintro e w1 ⟨rfl, -, hr1, hb1⟩; have HB := Lib.hid hb1; have HR := Lib.hid hr1; have g0 := hr1.cell (j := 0) rfl; have g1 := hr1.cell (j := 1) rfl; have g2 := hr1.cell (j := 2) rfl; have f0 := hr1.frozen 0; have f1 := hr1.frozen 1; have f2 := hr1.frozen 2; have hrl := hr1.lt; clear hb1 hr1)
    (try simp only [Exit.inBlock, Exit.then])
    refine bodyPost_ret (results_cell_tmp2_row rfl _ _ _ _ _ _ _ rfl (((HR.out.set 0 (.slice none 0 0)).set 1 (.slice none 0 0)).set 2 (.slice none 0 0)) Try.underlying26 rfl rfl) rfl ?_
    have hgr : w1.grownBy (((w1.setCell ⟨w.heap.size + 1, 0, none⟩ (.slice none 0 0)).setCell ⟨w.heap.size + 1, 1, none⟩ (.slice none 0 0)).setCell ⟨w.heap.size + 1, 2, none⟩ (.slice none 0 0)) (some (w.heap.size + 1)) := grownBy_setCell (grownBy_setCell (grownBy_setCell (World.grownBy.refl _ _) _ _) _ _) _ _
    exact ⟨none, none, none, 0, 0, 0, 0, 0, 0, by rw [HF.out]; rfl, by rw [HF.out]; exact nil_at _ _, HB.out.grown hgr HB.out.size (fun r hr => by cases hr; omega)⟩
  case pos =>
  subst h0
  obtain ⟨q, r, rfl, hT, ha1, ha2⟩ := ask_zero hc.symm
  have HT := Lib.hid hT
  obtain ⟨k, j, q1, q2, hk, hj, q3, q4⟩ := quo4 ha1 ha2
  have hP4 := hT.fewP; have hR4 := hT.fewR
  have hul := right_len hT.right
  rw [h.lenP, h.lenU] at hul
  subst hul
  rw [h.lenP] at hP4
  rw [h.lenR] at hR4
  have hqR : q < nR := by rw [← h.lenR]; exact (List.getElem?_eq_some_iff.1 hT.at').1
  have HOW : Hid (∀ W, RowKit.Below w.heap.size w W → Calls Try.prog 32 #[stV aP aU aR nU nU nR cP cU cR] W (OwnPost W s)) := fun W hW =>
    own_any (h.below hS hW) (fun b hb => Nat.lt_of_lt_of_le (hS b hb) hW.size) (by omega) (by omega) (by omega) hnP hnU (fun r hr => by have := (hT.right.1 r hr).1; omega)
  obtain ⟨bR, oR, ar, cr, rfl, hSR, xr, -, hnr, harr⟩ := row_elem h.roots hT.at'
  rw [hT.len] at xr
  have HXR : Hid (∀ W, RowKit.Below w.heap.size w W → W.cell? ⟨bR, oR + q, none⟩ = some (.slice ar 16 cr)) := fun W hW => (hW.cell (p := ⟨bR, oR + q, none⟩) (hS _ hSR)).trans xr
  have HCL : Hid (∀ W, RowKit.Below w.heap.size w W → Calls Try.prog 33 #[.slice ar 16 cr] W (fun e w2 => ∃ la lc, e = .returned (.slice la 16 lc) ∧ Go.Bk.Own (fun _ => False) w2 W.heap.size 3 (.slice la 16 lc) r ∧ RowKit.Below W.heap.size W w2)) := fun W hW =>
    (cloneI_any hT.len (harr.keep fun b hb => hW.block b (hS b hb)) hnr (fun b hb => Nat.lt_of_lt_of_le (hS b hb) hW.size) (by omega)).mono fun e w2 ⟨v, he, ho, hb⟩ => by
      obtain ⟨a, c, rfl, -⟩ := ho.arr
      exact ⟨a, c, by rw [he, hT.len], by rw [← hT.len]; exact ho, hb⟩
  obtain ⟨y0, y1, y2, y3, hy⟩ : ∃ y0 y1 y2 y3, pageOf s q at' = (y0, y1, y2, y3) := ⟨_, _, _, _, rfl⟩
  have HPG : Hid (∀ W, RowKit.Below w.heap.size w W → Calls Try.prog 31 #[stV aP aU (some ⟨bR, oR, none⟩) nU nU nR cP cU cR, .int .i64 q, .int .i64 at'] W (fun e w' => e = .returned (.agg #[.int .i64 y0, .int .i64 y1, .int .i64 y2, .int .i64 y3]) ∧ RowKit.Below W.heap.size W w')) := fun W hW => by
    have := page_any (cP := cP) (cU := cU) (cR := cR) (h.below hS hW) (fun b hb => Nat.lt_of_lt_of_le (hS b hb) hW.size) hT ha1 ha2
    rw [hy] at this
    exact this
  have HPK : Hid (∀ (W1 W4 : World) (vP vU vR : Value) (hs : List Hd), RowKit.Below w.heap.size w W1 → Blk W1 w.heap.size 26 [.slice aP nU cP, .slice aU nU cU, .slice (some ⟨bR, oR, none⟩) nR cR] → Blk W1 (w.heap.size + 1) 26 [.slice none 0 0, .slice none 0 0, .slice none 0 0] → Parts W4 W1.heap.size vP vU vR hs s → RowKit.Below W1.heap.size W1 W4 →
      ∃ pa pc ua uc ra rc, vP = .slice pa nU pc ∧ vU = .slice ua nU uc ∧ vR = .slice ra nR rc ∧ OutSt w (W4.alloc (.cells #[.slice pa nU pc, .slice ua nU uc, .slice ra nR rc] 26)) W4.heap.size W1.heap.size (w.heap.size + 1) (.slice pa nU pc) (.slice ua nU uc) (.slice ra nR rc) hs s ∧
        Blk (W4.alloc (.cells #[.slice pa nU pc, .slice ua nU uc, .slice ra nR rc] 26)) w.heap.size 26 [.slice aP nU cP, .slice aU nU cU, .slice (some ⟨bR, oR, none⟩) nR cR]) := fun W1 W4 vP vU vR hs hW hbx hres hp hb4 => by
    obtain ⟨pa, pc, e1, -⟩ := hp.pages.arr
    obtain ⟨ua, uc, e2, -⟩ := hp.uses.arr
    obtain ⟨ra, rc, e3, -⟩ := hp.roots.form
    rw [HL.out.1] at e1
    rw [HL.out.2.1] at e2
    rw [HL.out.2.2] at e3
    subst e1 e2 e3
    exact ⟨pa, pc, ua, uc, ra, rc, rfl, rfl, rfl, out_new2 hW (by omega) hres hp hb4, blk_al (blk_call hb4 hbx)⟩
  have HIN := Lib.hid (set4_I64 j (pageOf_I64 h.ints (q : Int) at') hv)
  have HSR : Hid (setRes s q at' v = setOf s q at' v) := by show _ = _; unfold setRes; rw [if_pos hc.symm]
  have HG : Hid (getOf s q at' = part4 (y0, y1, y2, y3) j) := by show _ = _; unfold getOf; rw [hy, q4]
  have HY := Lib.hid hy
  have HKJ : Hid ((at' / 4).toNat = k ∧ (at' % 4).toNat = j ∧ 0 ≤ at' ∧ at' < 64) := ⟨q3, q4, ha1, ha2⟩
  have HNEW : Hid (∀ W : World, Blk (W.alloc (.cells #[.int .i64 y0, .int .i64 y1, .int .i64 y2, .int .i64 y3] 64)) W.heap.size 64 (fourV (y0, y1, y2, y3))) := fun W => blk_new W (fourV (y0, y1, y2, y3)) 64
  have HI := Lib.hid hv
  have HBELR : Hid (∀ (W W' : World), RowKit.Below w.heap.size w W → RowKit.Below W.heap.size W W' → RowKit.Below w.heap.size w W') := fun W W' h k => h.trans (k.mono h.size)
  clear h hS hr hv b1 b2 hbel e1 hc hT hy harr hnr xr hSR q3 q4
  go_enter Try.func7, Try.ntmps7
  go_upto_region 7 with (first
    | (go_at_call 30; (with_reducible refine HC.out.mono ?_); rintro e w1 ⟨rfl, hb1, hr1, hbl⟩; have HB := Lib.hid hbl; have HR := Lib.hid hr1; have HX1 := Lib.hid hb1; have x0 := hb1.cell (j := 0) rfl; have x1 := hb1.cell (j := 1) rfl; have x2 := hb1.cell (j := 2) rfl; clear hb1 hr1 hbl)
    | (go_at_call 32; (with_reducible refine (HOW.out w1 HB.out).mono ?_); rintro e w4 ⟨vP, vU, vR, hs, rfl, hp, hb4⟩; (obtain ⟨pa, pc, ua, uc, ra, rc, rfl, rfl, rfl, ho, hb5⟩ := HPK.out w1 w4 vP vU vR hs HB.out HX1.out HR.out hp hb4); have HO := Lib.hid ho; have HX5 := Lib.hid hb5; have xr := HXR.out _ ho.below; clear x0 x1 x2; have x0 := hb5.cell (j := 0) rfl; have x1 := hb5.cell (j := 1) rfl; have x2 := hb5.cell (j := 2) rfl; clear hp hb4 ho hb5)
    | (go_at_call 33; (with_reducible refine (HCL.out _ HO.out.below).mono ?_); rintro e w5 ⟨la, lc, rfl, hro, hb5⟩; have HS5 := Lib.hid (HO.out.withRow hro hb5); have HX6 := Lib.hid (blk_call hb5 HX5.out); clear x0 x1 x2; have x0 := HX6.out.cell (j := 0) rfl; have x1 := HX6.out.cell (j := 1) rfl; have x2 := HX6.out.cell (j := 2) rfl; clear hro hb5)
    | (go_at_call 31; (with_reducible refine (HPG.out _ HS5.out.out.below).mono ?_); rintro e w6 ⟨rfl, hb6⟩; have HS6 := Lib.hid (HS5.out.keep hb6); clear hb6))
  have HS7 := Lib.hid (HS6.out.alloc (.cells #[.int .i64 y0, .int .i64 y1, .int .i64 y2, .int .i64 y3] 64))
  have HB7 := Lib.hid (HNEW.out w6)
  have HOFF : Hid (w.heap.size ≤ w6.heap.size ∧ Off (.slice pa nU pc) (.slice ua nU uc) (.slice ra nR rc) hs w6.heap.size ∧ (Value.slice la 16 lc).ownBlock ≠ some w6.heap.size ∧ w6.heap.size ≠ w4.heap.size ∧ w6.heap.size ≠ w.heap.size + 1) :=
    ⟨HS6.out.out.below.size, HS6.out.out.parts.off (.inr (Nat.le_refl _)), fun e => Nat.lt_irrefl _ (HS6.out.row.lt _ e).2, Nat.ne_of_gt HS6.out.out.box.lt, Nat.ne_of_gt HS6.out.out.res.lt⟩
  clear HS6 HX6 HS5 HX5 HO HX1 HR HB HC HOW HCL HPG HPK HNEW HXR x0 x1 x2 xr
  generalize w6.alloc (.cells #[.int .i64 y0, .int .i64 y1, .int .i64 y2, .int .i64 y3] 64) = w7 at *
  generalize w6.heap.size = gp at *
  generalize w4.heap.size = g at *
  generalize w1.heap.size = B at *
  obtain ⟨rk, hrk⟩ : ∃ rk, r[k]? = some rk := ⟨_, List.getElem?_eq_getElem (by rw [HT.out.len]; exact hk)⟩
  obtain ⟨gl, cl, hvl, -⟩ := int_at HS7.out.row hrk
  injection hvl with hvl1 hvl2 hvl3
  subst hvl1 hvl3
  clear hvl2
  obtain ⟨pv, hpv⟩ : ∃ pv, pv = part4 (y0, y1, y2, y3) j := ⟨_, rfl⟩
  have pj : w7.cell? ⟨gp, j, none⟩ = some (.int .i64 pv) := by rw [hpv]; exact HB7.out.cell (j := j) (fourV_at _ hj)
  have fj := HB7.out.frozen j
  have hpl := HB7.out.lt
  obtain ⟨ps, l, us, hh⟩ : ∃ ps l us, half s (q : Int) at' v = (ps, l, us) := ⟨_, _, _, rfl⟩
  obtain ⟨m, hm⟩ : ∃ m, m = ps.length := ⟨_, rfl⟩
  obtain ⟨n2, hn2⟩ : ∃ n2, n2 = (newRoots s.roots l).length := ⟨_, rfl⟩
  have HSO : Hid (setOf s q at' v = if 400 < m ∨ 40 < n2 then ((⟨[], [], []⟩ : Store), (0 : Int), (2 : Int)) else ((⟨ps, incTo us l 16, newRoots s.roots l⟩ : Store), ((emptyAt s.roots : Nat) : Int), (0 : Int))) := by show _ = _; unfold setOf; rw [hh, hm, hn2]
  have HLEN : Hid (us.length = m ∧ l.length = 16) := by
    have h1 := half_len HT.out at' v
    have h2 := half_row HT.out at' v
    rw [hh] at h1 h2
    exact ⟨by rw [hm]; exact h1.symm, h2⟩
  have HFEW : Hid (∀ x ∈ us, 0 ≤ x ∧ x ≤ 1000) := by have h1 := half_few HT.out at' v; rw [hh] at h1; exact h1
  have HOKP : Hid (∀ p ∈ l, -1 ≤ p ∧ p < (us.length : Int)) := by have h1 := half_okP HT.out at' v; rw [hh] at h1; exact h1
  have HN2 : Hid (n2 = (newRoots s.roots l).length) := hn2
  have HM : Hid (m = ps.length) := hm
  have HML : Hid (m ≤ 401 ∧ n2 ≤ 41) := by
    have h1 := newRoots_len s.roots l
    rw [← hn2, HL.out.2.2] at h1
    have h2 : ps.length ≤ 401 := by
      have e : ps = (half s (q : Int) at' v).1 := by rw [hh]
      rw [e]
      unfold half
      split
      · show s.pages.length ≤ 401; rw [HL.out.1]; omega
      · show (newPages s _).length ≤ 401
        unfold newPages putPage
        split
        · rw [HL.out.1]; omega
        · split
          · rw [List.length_set, HL.out.1]; omega
          · rw [List.length_append, HL.out.1]; show nU + 1 ≤ 401; omega
    rw [← hm] at h2
    refine ⟨h2, ?_⟩
    rw [h1]
    split <;> omega
  have hml := HML.out.1
  have hnl := HML.out.2
  by_cases heq : pv = v
  case' pos =>
    have d3 : (pv == v) = true := by simp [heq]
    have d4 : (pv != v) = false := by simp [heq]
    have he : half s (q : Int) at' v = (s.pages, r, s.uses) := by
      unfold half
      rw [if_pos (by rw [HG.out, ← hpv]; exact heq), rowAt_nat HT.out]
    rw [hh] at he
    injection he with he1 he2
    injection he2 with he2 he3
    have hmu : m = nU := by rw [hm, he1, HL.out.1]
    subst hmu
    have HSS : Hid (∃ pa pc ua uc, SetSt w w7 g B (w.heap.size + 1) (.slice pa m pc) (.slice ua m uc) (.slice ra nR rc) hs ⟨ps, us, s.roots⟩ (some ⟨gl, 0, none⟩) lc l) := ⟨pa, pc, ua, uc, by rw [he1, he2, he3]; exact HS7.out⟩
    clear hh hm hn2 heq hpv hrk HS7 HB7 he1 he2 he3
    go_wp2_with fail
  case' neg =>
    have d3 : (pv == v) = false := by simp [heq]
    have d4 : (pv != v) = true := by simp [heq]
    obtain ⟨z0, z1, z2, z3, hz⟩ : ∃ z0 z1 z2 z3, set4 (y0, y1, y2, y3) j v = (z0, z1, z2, z3) := ⟨_, _, _, _, rfl⟩
    have hnp : nPage s (q : Int) at' v = (z0, z1, z2, z3) := by unfold nPage; rw [HY.out, HKJ.out.2.1, hz]
    have he : half s (q : Int) at' v = (newPages s (z0, z1, z2, z3), r.set k (newNum s (z0, z1, z2, z3)), newUses s (z0, z1, z2, z3)) := by
      unfold half
      rw [if_neg (by rw [HG.out, ← hpv]; exact heq), rowAt_nat HT.out, hnp, HKJ.out.1]
    rw [hh] at he
    injection he with he1 he2
    injection he2 with he2 he3
    have hin := HIN.out
    rw [HY.out, hz] at hin
    have hgr : w7.grownBy (w7.setCell ⟨gp, j, none⟩ (.int .i64 v)) (some gp) := grownBy_setCell (World.grownBy.refl _ _) _ _
    have HS8 : Hid (SetSt w (w7.setCell ⟨gp, j, none⟩ (.int .i64 v)) g B (w.heap.size + 1) (.slice pa nU pc) (.slice ua nU uc) (.slice ra nR rc) hs s (some ⟨gl, 0, none⟩) lc r) := HS7.out.far hgr HOFF.out.1 HOFF.out.2.1 HOFF.out.2.2.1 HOFF.out.2.2.2.1 HOFF.out.2.2.2.2
    have hb8 : Blk (w7.setCell ⟨gp, j, none⟩ (.int .i64 v)) gp 64 (fourV (z0, z1, z2, z3)) := by
      have h1 := HB7.out.set j (.int .i64 v)
      rcases part4_set (y0, y1, y2, y3) j v with h2 | h2
      · rw [h2, hz] at h1; exact h1
      · omega
    have t0 := hb8.cell (j := 0) rfl; have t1 := hb8.cell (j := 1) rfl; have t2 := hb8.cell (j := 2) rfl; have t3 := hb8.cell (j := 3) rfl
    have HFR : Hid (Calls Try.prog 34 #[.pointer (some ⟨g, 0, none⟩), .agg #[.int .i64 z0, .int .i64 z1, .int .i64 z2, .int .i64 z3]] (w7.setCell ⟨gp, j, none⟩ (.int .i64 v)) (FreshPost (w7.setCell ⟨gp, j, none⟩ (.int .i64 v)) g B (.slice pa nU pc) (.slice ua nU uc) (.slice ra nR rc) hs s (z0, z1, z2, z3))) :=
      fresh_any HS8.out.out.box HS8.out.out.parts HS8.out.out.off (Nat.le_trans HS8.out.out.lowG (Nat.le_of_lt HS8.out.out.box.lt)) (right_len HT.out.right) (by rw [HL.out.1]; exact hP4) hin
    have HAFT : Hid (∀ (w9 : World) (vP' vU' : Value), FreshSt (w7.setCell ⟨gp, j, none⟩ (.int .i64 v)) w9 g B (.slice pa nU pc) (.slice ua nU uc) (.slice ra nR rc) hs ⟨newPages s (z0, z1, z2, z3), newUses s (z0, z1, z2, z3), s.roots⟩ vP' vU' →
        w9.cell? ⟨gl, k, none⟩ = some (.int .i64 rk) ∧ w9.frozen? ⟨gl, k, none⟩ = false ∧ ∃ pa pc ua uc, SetSt w (w9.setCell ⟨gl, k, none⟩ (.int .i64 (newNum s (z0, z1, z2, z3)))) g B (w.heap.size + 1) (.slice pa m pc) (.slice ua m uc) (.slice ra nR rc) hs ⟨ps, us, s.roots⟩ (some ⟨gl, 0, none⟩) lc l) := fun w9 vP' vU' hf => by
      have h9 := HS8.out.fresh hf
      obtain ⟨gl', cl', hv', -, -, hc9, hf9, -⟩ := int_at h9.row hrk
      injection hv' with hv'
      injection hv' with hv'
      injection hv' with hv'
      subst hv'
      have h10 := h9.setRow rfl hrk (num_I64 (by rw [HL.out.2.1]; omega) (z0, z1, z2, z3))
      rw [← he1, ← he2, ← he3] at h10
      obtain ⟨pa', pc', e1, -⟩ := h10.out.parts.pages.arr
      obtain ⟨ua', uc', e2, -⟩ := h10.out.parts.uses.arr
      change vP' = .slice pa' ps.length pc' at e1
      change vU' = .slice ua' us.length uc' at e2
      rw [← HM.out] at e1
      rw [HLEN.out.1] at e2
      subst e1 e2
      exact ⟨hc9, hf9, pa', pc', ua', uc', h10⟩
    clear hh hm hn2 heq hpv hrk HS7 HB7 hz hnp he1 he2 he3 hin hgr HS8 hb8
    go_wp2_with (go_at_call 34; (with_reducible refine HFR.out.mono ?_); rintro e w9 ⟨rfl, vP', vU', hf⟩; (obtain ⟨c9, f9, hss⟩ := HAFT.out w9 vP' vU' hf); have HSS := Lib.hid hss; clear hf hss)
  all_goals
    obtain ⟨pa2, pc2, ua2, uc2, hss⟩ := HSS.out
    clear HSS
    go_loopw [56] (fun v56 w' => sRel w g B (w.heap.size + 1) (.slice pa2 m pc2) (.slice ua2 m uc2) (.slice ra nR rc) hs ps us s.roots (some ⟨gl, 0, none⟩) lc l v56 w') (fun i _ => 16 - (intOf i).toNat)
    case atStart => exact ⟨0, Nat.zero_le _, rfl, by rw [inc_zero]; exact hss⟩
    case round =>
      clear hss
      try clear HAFT HFR t0 t1 t2 t3 c9 f9
      clear pj fj hpl
      obtain ⟨i, hi, rfl, hst⟩ := hrel
      have HST := Lib.hid hst
      have z0c := hst.out.box.cell (j := 0) rfl; have z1c := hst.out.box.cell (j := 1) rfl; have z2c := hst.out.box.cell (j := 2) rfl
      by_cases hi16 : i < 16
      case neg =>
        have hi2 : i = 16 := by omega
        subst hi2
        have HRT : Hid (Calls Try.prog 35 #[.pointer (some ⟨g, 0, none⟩), .slice (some ⟨gl, 0, none⟩) 16 lc] wr (RootPost wr g B (.slice pa2 m pc2) (.slice ua2 m uc2) (.slice ra nR rc) ⟨ps, incTo us l 16, s.roots⟩ l)) :=
          root_any hst.out.box hst.out.parts hst.out.off (Nat.le_trans hst.out.lowG (Nat.le_of_lt hst.out.box.lt)) (by show s.roots.length ≤ 40; rw [HL.out.2.2]; exact hR4) hst.row hst.offV hst.offG
        have HFO : Hid (∀ w2 vR' hs', RootSt wr w2 g B (.slice pa2 m pc2) (.slice ua2 m uc2) (.slice ra nR rc) ⟨ps, incTo us l 16, newRoots s.roots l⟩ vR' hs' → ∃ ra2 rc2, vR' = .slice ra2 n2 rc2 ∧ OutSt w w2 g B (w.heap.size + 1) (.slice pa2 m pc2) (.slice ua2 m uc2) (.slice ra2 n2 rc2) hs' ⟨ps, incTo us l 16, newRoots s.roots l⟩) := fun w2 vR' hs' hf => by
          obtain ⟨ra2, rc2, e, -, -⟩ := hf.parts.roots.form
          change vR' = .slice ra2 (newRoots s.roots l).length rc2 at e
          rw [← HN2.out] at e
          subst e
          exact ⟨ra2, rc2, rfl, HST.out.out.root hf⟩
        clear hst
        have hcs : (decide ((400 : Int) < (m : Int)) = true ∧ setOf s q at' v = ((⟨[], [], []⟩ : Store), (0 : Int), (2 : Int))) ∨ (decide ((400 : Int) < (m : Int)) = false ∧ decide ((40 : Int) < (n2 : Int)) = true ∧ setOf s q at' v = ((⟨[], [], []⟩ : Store), (0 : Int), (2 : Int))) ∨
            (decide ((400 : Int) < (m : Int)) = false ∧ decide ((40 : Int) < (n2 : Int)) = false ∧ setOf s q at' v = ((⟨ps, incTo us l 16, newRoots s.roots l⟩ : Store), ((emptyAt s.roots : Nat) : Int), (0 : Int))) := by
          rw [HSO.out]
          simp only [decide_eq_true_eq, decide_eq_false_iff_not]
          by_cases h1 : 400 < m
          · exact .inl ⟨by omega, if_pos (.inl h1)⟩
          · by_cases h2 : 40 < n2
            · exact .inr (.inl ⟨by omega, by omega, if_pos (.inr h2)⟩)
            · exact .inr (.inr ⟨by omega, by omega, if_neg (by omega)⟩)
        rcases hcs with ⟨t1d, hf0⟩ | ⟨t1d, t2d, hf0⟩ | ⟨t1d, t2d, hf0⟩
        all_goals
          have HF0 := Lib.hid hf0
          clear hf0
          go_wp2_with (go_at_call 35; (with_reducible refine HRT.out.mono ?_); rintro e w2 ⟨rfl, vR', hs', hf⟩; (obtain ⟨ra2, rc2, rfl, ho⟩ := HFO.out w2 vR' hs' hf); have HO := Lib.hid ho; have b0c := ho.box.cell (j := 0) rfl; have b1c := ho.box.cell (j := 1) rfl; have b2c := ho.box.cell (j := 2) rfl; have g0 := ho.res.cell (j := 0) rfl; have g1 := ho.res.cell (j := 1) rfl; have g2 := ho.res.cell (j := 2) rfl; have f0 := ho.res.frozen 0; have f1 := ho.res.frozen 1; have f2 := ho.res.frozen 2; have hrl := ho.res.lt; clear hf ho)
          (try simp only [Exit.inBlock, Exit.then])
          first
          | (obtain ⟨d1, d2, d3⟩ := HO.out.done
             refine bodyPost_ret (results_cell_tmp2_row rfl _ _ _ _ _ _ _ rfl d1 Try.underlying26 rfl rfl) rfl ?_
             refine ⟨_, _, _, _, _, _, _, _, _, by rw [HSR.out, HF0.out]; rfl, ?_, d3⟩
             rw [HSR.out, HF0.out]
             exact d2)
          | (refine bodyPost_ret (results_cell_tmp2_row rfl _ _ _ _ _ _ _ rfl (((HO.out.res.set 0 (.slice none 0 0)).set 1 (.slice none 0 0)).set 2 (.slice none 0 0)) Try.underlying26 rfl rfl) rfl ?_
             have hgr2 : w2.grownBy (((w2.setCell ⟨w.heap.size + 1, 0, none⟩ (.slice none 0 0)).setCell ⟨w.heap.size + 1, 1, none⟩ (.slice none 0 0)).setCell ⟨w.heap.size + 1, 2, none⟩ (.slice none 0 0)) (some (w.heap.size + 1)) := grownBy_setCell (grownBy_setCell (grownBy_setCell (World.grownBy.refl _ _) _ _) _ _) _ _
             exact ⟨none, none, none, 0, 0, 0, 0, 0, 0, by rw [HSR.out, HF0.out]; rfl, by rw [HSR.out, HF0.out]; exact nil_at _ _, HO.out.below.grown hgr2 HO.out.below.size (fun r hr => by cases hr; omega)⟩)
      case pos =>
      obtain ⟨p, hp⟩ : ∃ p, l[i]? = some p := ⟨_, List.getElem?_eq_getElem (by rw [HLEN.out.2]; exact hi16)⟩
      obtain ⟨gl', cl', hv', -, hgl, hcl, -, hip⟩ := int_at hst.row hp
      injection hv' with hv1 hv2 hv3
      injection hv1 with hv1
      injection hv1 with hv1
      subst hv1
      have hpo := HOKP.out p (List.mem_of_getElem? hp)
      by_cases hp0 : p < 0
      · have d1 : decide (0 ≤ p) = false := decide_eq_false (by omega)
        have HE : Hid (incTo us l (i + 1) = incTo us l i) := inc_skip hp hp0
        clear hst hv2 hv3 hp hp0 hpo
        go_wp2_with fail
        go_roundw
        case rel => exact ⟨i + 1, by omega, by go_num, by rw [HE.out]; exact HST.out⟩
        case measure => simp [intOf]; omega
      · obtain ⟨z, rfl⟩ : ∃ z : Nat, p = (z : Int) := ⟨p.toNat, by omega⟩
        have d1 : decide (0 ≤ (z : Int)) = true := decide_eq_true (by omega)
        have hzu : z < us.length := by omega
        obtain ⟨u, hu, hu1, hu2, hs1⟩ := inc_step (k := i) hp hzu HFEW.out (by rw [HLEN.out.2]; exact Nat.le_refl _)
        obtain ⟨gu, cu, hvu, -, hgu, hcu, hfu, -⟩ := int_at hst.out.parts.uses hu
        injection hvu with hvu1 hvu2 hvu3
        subst hvu1 hvu3
        rw [HLEN.out.1] at hzu
        have hn := hst.setU (k := z) (y := u + 1) rfl hu (by unfold I64; omega)
        have HN : Hid (SetSt w (wr.setCell ⟨gu, z, none⟩ (.int .i64 (u + 1))) g B (w.heap.size + 1) (.slice pa2 m pc2) (.slice (some ⟨gu, 0, none⟩) m uc2) (.slice ra nR rc) hs ⟨ps, incTo us l (i + 1), s.roots⟩ (some ⟨gl, 0, none⟩) lc l) := by
          show SetSt _ _ _ _ _ _ _ _ _ _ _ _ _
          rw [hs1]
          exact hn
        clear hst hv2 hv3 hp hp0 hpo hn hs1 hu hvu2
        go_wp2_with fail
        go_roundw
        case rel => exact ⟨i + 1, by omega, by go_num, HN.out⟩
        case measure => simp [intOf]; omega
end Go.Proofs.Ytjlnaiiajlahgaa.pag
