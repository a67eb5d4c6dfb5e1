/- PagesTells: the document's PagesSet: walked. -/
import Derived.Test.YtjlnaiiajlahgaaPagW
import Derived.Deep.DeepCutAuto
set_option linter.unusedVariables false
set_option linter.unusedSimpArgs false
namespace Go.Proofs.Ytjlnaiiajlahgaa.pag
open Go.Bk Go.RowKit

def rRel (w : World) (bx : List Value) (vP vU : Value) (ps : List Four) (l : List Int) (ls : List (List Int)) (nR : Nat) (v18 v19 v20 : Value) (w' : World) : Prop :=
  ∃ i : Nat, i ≤ nR ∧ v20 = .int .i64 i ∧ v19 = .int .i64 (numTo ls i) ∧ ∃ hs, PSt w w' bx vP vU v18 hs ⟨ps, l, rootsTo ls l i⟩
def PSetPost (w : World) (s : Store) (root at' v : Int) (e : Ending) (w' : World) : Prop :=
  ∃ aP aU aR nP nU nR cP cU cR, e = .returned (.tuple #[stV aP aU aR nP nU nR cP cU cR, .int .i64 (setOf s root at' v).2.1, .int .i64 (setOf s root at' v).2.2]) ∧ StAt (Fresh w w') w' aP aU aR nP nU nR (setOf s root at' v).1 ∧ RowKit.Below w.heap.size w w'
theorem four_any {S S2 : Nat → Prop} {w w2 : World} (cs : List Value) (y : Four) (h : Rep.cells S w cs y) : Rep.cells S2 w2 cs y := by
  obtain ⟨rfl, h1, h2, h3, h4⟩ := cells_int4 h
  exact cells_int4_mk h1 h2 h3 h4
def zRel (w : World) (bx : List Value) (vP vU : Value) (ps : List Four) (r : List Int) (gp : Nat) (z : Four) (v14 v15 : Value) (w' : World) : Prop :=
  ∃ k : Nat, k ≤ 4 ∧ v15 = .int .i64 k ∧ v14 = .bool (zeroTo z k) ∧ Blk w' gp 64 (fourV (upTo z k)) ∧ PSt w w' bx vP vU (.slice none 0 0) [] ⟨ps, r, []⟩
def nRel (w0 : World) (n fr : Nat) (v16 v17 : Value) (w' : World) : Prop :=
  w0 = w' ∧ ((∃ i : Nat, i ≤ n ∧ i ≤ fr ∧ v16 = .int .i64 (-1) ∧ v17 = .int .i64 i) ∨ (fr < n ∧ v16 = .int .i64 (fr : Nat) ∧ v17 = .int .i64 ((fr + 1 : Nat) : Int)))
theorem newRoots_mem {l : List (List Int)} {r x : List Int} (h : x ∈ newRoots l r) : x ∈ l ∨ x = r := by
  unfold newRoots at h
  split at h
  · exact List.mem_or_eq_of_mem_set h
  · rcases List.mem_append.1 h with h | h
    · exact .inl h
    · simp at h; exact .inr h
set_option maxRecDepth 100000 in
set_option maxHeartbeats 8000000 in
theorem pset_any {S : Nat → Prop} {w : World} {aP aU aR : Option Addr} {nP nU nR cP cU cR : Nat} {s : Store} {q : Nat} {r : List Int} {at' v : Int} (h : StAt S w aP aU aR nP nU nR s) (hS : ∀ b, S b → b < w.heap.size) (hT : There s q r) (ha1 : 0 ≤ at') (ha2 : at' < 64) (hv : I64 v) (hnP : aP = none → cP = 0) :
    Calls Try.prog 13 #[stV aP aU aR nP nU nR cP cU cR, .int .i64 q, .int .i64 at', .int .i64 v] w (PSetPost w s q at' v) := by
  have HST : Hid (∀ w', RowKit.Below w.heap.size w w' → StAt S w' aP aU aR nP nU nR s) := fun w' hb => h.below hS hb
  have HSS : Hid (∀ b, S b → b < w.heap.size) := hS
  have HL : Hid (s.pages.length = nP ∧ s.uses.length = nU ∧ s.roots.length = nR) := ⟨h.lenP, h.lenU, h.lenR⟩
  have HT := Lib.hid hT
  have HAT : Hid (0 ≤ at' ∧ at' < 64) := ⟨ha1, ha2⟩
  obtain ⟨k, j, q1, q2, hk, hj, q3, q4⟩ := quo4 ha1 ha2
  have hP4 := hT.fewP; have hR4 := hT.fewR
  have hul := right_len hT.right
  rw [h.lenP, h.lenU] at hul
  subst hul
  rw [h.lenP] at hP4
  rw [h.lenR] at hR4
  have hqR : q < nR := by rw [← h.lenR]; exact (List.getElem?_eq_some_iff.1 hT.at').1
  have HIN := Lib.hid h.ints
  have HNP : Hid (aP = none → cP = 0) := hnP
  have HI := Lib.hid hv
  have e1 : (w.alloc (.cells #[.slice aP nU cP, .slice aU nU cU, .slice aR nR cR] 26)).heap.size = w.heap.size + 1 := by simp
  have e2 : ((w.alloc (.cells #[.slice aP nU cP, .slice aU nU cU, .slice aR nR cR] 26)).alloc (.cells #[.slice none 0 0, .slice none 0 0, .slice none 0 0] 26)).heap.size = w.heap.size + 2 := by simp
  have b1 : Blk (w.alloc (.cells #[.slice aP nU cP, .slice aU nU cU, .slice aR nR cR] 26)) w.heap.size 26 [.slice aP nU cP, .slice aU nU cU, .slice aR nR cR] := blk_new w _ _
  have b2 : Blk ((w.alloc (.cells #[.slice aP nU cP, .slice aU nU cU, .slice aR nR cR] 26)).alloc (.cells #[.slice none 0 0, .slice none 0 0, .slice none 0 0] 26)) (w.heap.size + 1) 26 [.slice none 0 0, .slice none 0 0, .slice none 0 0] := by
    have := blk_new (w.alloc (.cells #[.slice aP nU cP, .slice aU nU cU, .slice aR nR cR] 26)) [.slice none 0 0, .slice none 0 0, .slice none 0 0] 26
    rwa [e1] at this
  have HP1 : Hid (PSt w ((w.alloc (.cells #[.slice aP nU cP, .slice aU nU cU, .slice aR nR cR] 26)).alloc (.cells #[.slice none 0 0, .slice none 0 0, .slice none 0 0] 26)) [.slice aP nU cP, .slice aU nU cU, .slice aR nR cR] (.slice none 0 0) (.slice none 0 0) (.slice none 0 0) [] ⟨[], [], []⟩) :=
    ⟨⟨Own.nil _ _ _ _, Own.nil _ _ _ _, RowsOwn.nil _ _ _ _, fun j x hx => by simp at hx, Apart.nil_left _ _ _, Apart.nil_left _ _ _, Apart.nil_left _ _ _⟩, blk_al b1, b2, ((RowKit.Below.refl _ _).alloc (Nat.le_refl _) _).alloc (by simp) _⟩
  obtain ⟨bR, oR, ar, cr, rfl, hSR, xr0, -, hnr, harr⟩ := row_elem h.roots hT.at'
  rw [hT.len] at xr0
  have HXR : Hid (∀ W, RowKit.Below w.heap.size w W → W.cell? ⟨bR, oR + q, none⟩ = some (.slice ar 16 cr)) := fun W hW => (hW.cell (p := ⟨bR, oR + q, none⟩) (hS _ hSR)).trans xr0
  generalize hW1 : (w.alloc (.cells #[.slice aP nU cP, .slice aU nU cU, .slice (some ⟨bR, oR, none⟩) nR cR] 26)).alloc (.cells #[.slice none 0 0, .slice none 0 0, .slice none 0 0] 26) = w1 at *
  have hb2 : RowKit.Below w.heap.size w (w1.alloc (.cells #[] 3)) := HP1.out.below.alloc HP1.out.below.size _
  have HE0 : Hid (Go.Bk.Own (fun _ => False) (w1.alloc (.cells #[] 3)) (w.heap.size + 2) 3 (.slice (some ⟨w1.heap.size, 0, none⟩) 0 0) ([] : List Int)) := own_zero (α := Int) (S := fun _ => False) (B := w.heap.size + 2) (g := w1.heap.size) (by omega) (box_zero (w := w1) (e := 3))
  have HAE : Hid (Arr S (w1.alloc (.cells #[] 3)) ar r) := harr.keep fun b hb => hb2.block b (hS b hb)
  have HRL : Hid (r.length = 16 ∧ (ar = none → cr = 0) ∧ w1.heap.size = w.heap.size + 2) := ⟨hT.len, hnr, e2⟩
  have HAF : Hid (∀ (v' : Value) (w' : World), Go.Bk.Own (fun _ => False) w' (w.heap.size + 2) 3 v' ([] ++ r) → (w1.alloc (.cells #[] 3)).grownBy w' (some w1.heap.size) → ∃ la lc, v' = .slice la 16 lc ∧ PSt w w' [.slice aP nU cP, .slice aU nU cU, .slice (some ⟨bR, oR, none⟩) nR cR] (.slice none 0 0) (.slice la 16 lc) (.slice none 0 0) [] ⟨[], r, []⟩) := fun v' w' ho hg => by
    obtain ⟨la, lc, e, -⟩ := ho.arr
    rw [List.nil_append, HRL.out.1] at e
    subst e
    exact ⟨la, lc, rfl, (HP1.out.alloc _).grow hg (fun k hk => by cases hk; exact Nat.le_of_eq HRL.out.2.2.symm) ⟨Own.nil _ _ _ _, ho, RowsOwn.nil _ _ _ _, fun j x hx => by simp at hx, Apart.nil_left _ _ _, Apart.nil_left _ _ _, Apart.nil_right _ _ _⟩⟩
  have HAG : Hid (∀ (la : Option Addr) (lc : Nat) (w3 : World) (v' : Value) (w' : World), PSt w w3 [.slice aP nU cP, .slice aU nU cU, .slice (some ⟨bR, oR, none⟩) nR cR] (.slice none 0 0) (.slice la 16 lc) (.slice none 0 0) [] ⟨[], r, []⟩ → Go.Bk.Own (fun _ => False) w' w3.heap.size 64 v' ([] ++ s.pages) → (w3.alloc (.cells #[] 64)).grownBy w' (some w3.heap.size) →
      ∃ pa pc, v' = .slice pa nU pc ∧ PSt w w' [.slice aP nU cP, .slice aU nU cU, .slice (some ⟨bR, oR, none⟩) nR cR] (.slice pa nU pc) (.slice la 16 lc) (.slice none 0 0) [] ⟨s.pages, r, []⟩) := fun la lc w3 v' w' hp ho hg => by
    obtain ⟨pa, pc, e, -⟩ := ho.arr
    rw [List.nil_append, HL.out.1] at e
    subst e
    exact ⟨pa, pc, rfl, hp.newP (box_below (n := 0) (c := 0) hg) ho⟩
  have HPW : Hid (∀ W, RowKit.Below w.heap.size w W → Arr S W aP s.pages) := fun W hW => (HST.out W hW).pages
  have HGT : Hid (∀ W, RowKit.Below w.heap.size w W → Calls Try.prog 12 #[stV aP aU (some ⟨bR, oR, none⟩) nU nU nR cP cU cR, .int .i64 q, .int .i64 at'] W (CodePost W (getOf s q at'))) := fun W hW =>
    pget_any (HST.out W hW) (fun b hb => Nat.lt_of_lt_of_le (HSS.out b hb) hW.size) hT ha1 ha2
  have x0 := HP1.out.box.cell (j := 0) rfl; have x2 := HP1.out.box.cell (j := 2) rfl
  have HPL : Hid (s.pages.length = nU) := HL.out.1
  have HOZ : Hid (∀ W : World, Go.Bk.Own (fun _ => False) (W.alloc (.cells #[] 64)) W.heap.size 64 (.slice (some ⟨W.heap.size, 0, none⟩) 0 0) ([] : List Four)) := fun W => own_zero (Nat.le_refl _) box_zero
  have HZL : Hid (([] : List Four).length = 0) := rfl
  have hlw := HP1.out.box.lt
  have hlR : bR < w1.heap.size := Nat.lt_of_lt_of_le (HSS.out _ hSR) HP1.out.below.size
  clear h hS hv b1 b2 e1 hb2 hT harr hnr xr0 hSR hnP
  go_enter Try.func13, Try.ntmps13
  go_upto_region 1 with fail
  clear hW1 e2
  have xr := HXR.out w1 HP1.out.below
  go_upto_region 3 with (first
    | (at_builtin; (at_builtin; with_reducible refine Try.wp_apps23 rfl rfl rfl rfl (HRL.out.1) (HE0.out) (HAE.out) Try.flat23 (HRL.out.2.1) (fun _ h => h.elim) (by simp) (by first | omega | (simp; omega) | simp) fun v' w' hown' hg' => ?_); (obtain ⟨la, lc, rfl, hp⟩ := HAF.out v' w' hown' (by with_unfolding_all exact hg')); have HP3 := Lib.hid hp; have x0 := hp.box.cell (j := 0) rfl; have x1 := hp.box.cell (j := 1) rfl; have x2 := hp.box.cell (j := 2) rfl; have hl3 := hp.box.lt; clear hown' hg' hp)
    | (at_builtin; (with_reducible refine wp_apps4 rfl rfl rfl rfl HPL.out (HOZ.out w') (HPW.out _ (HP3.out.below.alloc HP3.out.below.size _)) four_any HNP.out (fun _ h => h.elim) (by rw [HZL.out]; omega) (by first | omega | (simp; omega) | simp) fun v4 w4 hown4 hg4 => ?_); (obtain ⟨pa, pc, rfl, hp⟩ := HAG.out la lc w' v4 w4 HP3.out hown4 (by with_unfolding_all exact hg4)); have HP4 := Lib.hid hp; clear x0 x1 x2; have x0 := hp.box.cell (j := 0) rfl; have x1 := hp.box.cell (j := 1) rfl; have x2 := hp.box.cell (j := 2) rfl; clear hown4 hg4 hp))
  obtain ⟨gv, hgv⟩ : ∃ gv, gv = getOf s q at' := ⟨_, rfl⟩
  have HG4 : Hid (Calls Try.prog 12 #[stV aP aU (some ⟨bR, oR, none⟩) nU nU nR cP cU cR, .int .i64 q, .int .i64 at'] w4 (CodePost w4 gv)) := by
    have := HGT.out w4 HP4.out.below
    rwa [← hgv] at this
  have HGV : Hid (gv = getOf s q at') := hgv
  clear HE0 HAE HRL HAF HAG HPW HXR HOZ HZL xr hlw hlR HP3 hl3 HP1 HGT hgv HPL
  obtain ⟨ps, l, us, hh⟩ : ∃ ps l us, half s (q : Int) at' v = (ps, l, us) := ⟨_, _, _, rfl⟩
  obtain ⟨m, hm⟩ : ∃ m, m = ps.length := ⟨_, rfl⟩
  obtain ⟨n2, hn2⟩ : ∃ n2, n2 = (newRoots s.roots l).length := ⟨_, rfl⟩
  have HSO : Hid (setOf s q at' v = if 400 < m ∨ 40 < n2 then ((⟨[], [], []⟩ : Store), (0 : Int), (2 : Int)) else ((⟨ps, incTo us l 16, newRoots s.roots l⟩ : Store), ((emptyAt s.roots : Nat) : Int), (0 : Int))) := by show _ = _; unfold setOf; rw [hh, hm, hn2]
  have HSM : Hid (countedOf ⟨ps, [], newRoots s.roots l⟩ = ⟨ps, incTo us l 16, newRoots s.roots l⟩) := by have h1 := set_same HT.out (v := v) HAT.out; rw [hh] at h1; exact h1
  have HLEN : Hid (us.length = m ∧ l.length = 16) := by
    have h1 := half_len HT.out at' v
    have h2 := half_row HT.out at' v
    rw [hh] at h1 h2
    exact ⟨by rw [hm]; exact h1.symm, h2⟩
  have HN2 : Hid (n2 = if emptyAt s.roots < nR then nR else nR + 1) := by show _ = _; rw [hn2, newRoots_len, HL.out.2.2]
  have HN3 : Hid (n2 = (newRoots s.roots l).length) := hn2
  have HM : Hid (m = ps.length) := hm
  have HH : Hid (half s (q : Int) at' v = (ps, l, us)) := hh
  have HM1 : Hid (m ≤ 401) := by
    have h2 : ps.length ≤ 401 := by
      have e : ps = (half s (q : Int) at' v).1 := by rw [hh]
      rw [e]
      unfold half
      split
      · show s.pages.length ≤ 401; rw [HL.out.1]; omega
      · show (newPages s _).length ≤ 401
        unfold newPages putPage
        split
        · rw [HL.out.1]; omega
        · split
          · rw [List.length_set, HL.out.1]; omega
          · rw [List.length_append, HL.out.1]; show nU + 1 ≤ 401; omega
    show m ≤ 401
    rw [hm]
    exact h2
  have hml := HM1.out
  clear hh hm hn2
  go_upto_if 38 with (go_at_call 12; (with_reducible refine HG4.out.mono ?_); rintro e w5 ⟨rfl, hb5⟩; have HP5 := Lib.hid (HP4.out.keep hb5); clear hb5)
  have x0 := HP5.out.box.cell (j := 0) rfl; have x1 := HP5.out.box.cell (j := 1) rfl; have x2 := HP5.out.box.cell (j := 2) rfl
  go_cut [11, 12] (fun s11 s12 wz => ∃ la lc pa pc, s11 = .slice la 16 lc ∧ s12 = .slice pa m pc ∧ PSt w wz [.slice aP nU cP, .slice aU nU cU, .slice (some ⟨bR, oR, none⟩) nR cR] (.slice pa m pc) (.slice la 16 lc) (.slice none 0 0) [] ⟨ps, l, []⟩)
  case first =>
    have HG3 := Lib.hid HG4.out
    clear HG4 HP4
    have hk0 := HAT.out
    by_cases heq : gv = v
    · have he : half s (q : Int) at' v = (s.pages, r, s.uses) := by
        unfold half
        rw [if_pos (by rw [← HGV.out]; exact heq), rowAt_nat HT.out]
      rw [HH.out] at he
      injection he with he1 he2
      injection he2 with he2 he3
      have HE : Hid (m = nU ∧ ps = s.pages ∧ l = r) := ⟨by rw [HM.out, he1, HL.out.1], he1, he2⟩
      clear he1 he2 he3
      go_wp2_with fail
      go_meet
      exact ⟨la, lc, pa, pc, rfl, by rw [HE.out.1], by rw [HE.out.1, HE.out.2.1, HE.out.2.2]; exact HP5.out⟩
    · obtain ⟨y0, y1, y2, y3, hy⟩ : ∃ y0 y1 y2 y3, pageOf s q at' = (y0, y1, y2, y3) := ⟨_, _, _, _, rfl⟩
      obtain ⟨z0, z1, z2, z3, hz⟩ : ∃ z0 z1 z2 z3, set4 (y0, y1, y2, y3) j v = (z0, z1, z2, z3) := ⟨_, _, _, _, rfl⟩
      have hin := set4_I64 j (pageOf_I64 HIN.out (q : Int) at') HI.out
      rw [hy, hz] at hin
      have HZI := Lib.hid hin
      have he : half s (q : Int) at' v = (newPages s (z0, z1, z2, z3), r.set k (newNum s (z0, z1, z2, z3)), newUses s (z0, z1, z2, z3)) := by
        unfold half nPage
        rw [if_neg (by rw [← HGV.out]; exact heq), rowAt_nat HT.out, hy, q3, q4, hz]
      rw [HH.out] at he
      injection he with he1 he2
      injection he2 with he2 he3
      have HE : Hid (ps = newPages s (z0, z1, z2, z3) ∧ l = r.set k (newNum s (z0, z1, z2, z3)) ∧ us = newUses s (z0, z1, z2, z3)) := ⟨he1, he2, he3⟩
      have HPK : Hid (∀ i, i < 4 → part4 (z0, z1, z2, z3) i = if i = j then v else part4 (y0, y1, y2, y3) i) := fun i hi => by rw [← hz]; exact part4_set4 _ v hj hi
      have HGK : Hid (∀ (i : Nat) (W : World), i < 4 → RowKit.Below w.heap.size w W → Calls Try.prog 12 #[stV aP aU (some ⟨bR, oR, none⟩) nU nU nR cP cU cR, .int .i64 q, .int .i64 (at' - (j : Int) + (i : Int))] W (CodePost W (part4 (y0, y1, y2, y3) i))) := fun i W hi hW => by
        have h1 := pget_any (at' := at' - (j : Int) + (i : Int)) (cP := cP) (cU := cU) (cR := cR) (HST.out W hW) (fun b hb => Nat.lt_of_lt_of_le (HSS.out b hb) hW.size) HT.out (by have := HAT.out; omega) (by have := HAT.out; omega)
        rw [getOf_near s (q : Int) HAT.out.1 q4 hi, hy] at h1
        exact h1
      have HB0 : Hid (Blk (w5.alloc (.cells #[.int .i64 0, .int .i64 0, .int .i64 0, .int .i64 0] 64)) w5.heap.size 64 (fourV zero4)) := blk_new w5 (fourV zero4) 64
      have HP6 := Lib.hid (HP5.out.alloc (.cells #[.int .i64 0, .int .i64 0, .int .i64 0, .int .i64 0] 64))
      have HGP : Hid (w.heap.size + 2 ≤ w5.heap.size ∧ Off (.slice pa nU pc) (.slice la 16 lc) (.slice none 0 0) [] w5.heap.size) := ⟨HP5.out.size, HP5.out.parts.off (.inr (Nat.le_refl _))⟩
      obtain ⟨rk, hrk⟩ : ∃ rk, r[k]? = some rk := ⟨_, List.getElem?_eq_getElem (by rw [HT.out.len]; exact hk)⟩
      obtain ⟨gl, cl, hvl, -⟩ := int_at HP5.out.parts.uses hrk
      injection hvl with hvl1 hvl2 hvl3
      subst hvl1 hvl3
      have HRK : Hid (r[k]? = some rk) := hrk
      clear hvl2 he1 he2 he3 hin hy hz hrk q3 q4 HG3
      go_wp2_with fail
      clear HP5 x0 x1 x2
      generalize w5.alloc (.cells #[.int .i64 0, .int .i64 0, .int .i64 0, .int .i64 0] 64) = w6 at *
      generalize w5.heap.size = gp at *
      go_loopw [14, 15] (fun v14 v15 w' => zRel w [.slice aP nU cP, .slice aU nU cU, .slice (some ⟨bR, oR, none⟩) nR cR] (.slice pa nU pc) (.slice (some ⟨gl, 0, none⟩) 16 lc) s.pages r gp (z0, z1, z2, z3) v14 v15 w') (fun _ i _ => 4 - (intOf i).toNat)
      case atStart => exact ⟨0, Nat.zero_le _, rfl, rfl, HB0.out, HP6.out⟩
      case round =>
      clear HB0 HP6
      obtain ⟨i, hi, rfl, rfl, hbk, hst⟩ := hrel
      have HBK := Lib.hid hbk
      have HST2 := Lib.hid hst
      have x0 := hst.box.cell (j := 0) rfl; have x1 := hst.box.cell (j := 1) rfl; have x2 := hst.box.cell (j := 2) rfl
      by_cases hi4 : i < 4
      case neg =>
        have hi5 : i = 4 := by omega
        subst hi5
        rw [upTo_all] at HBK
        have hall := zeroTo_all (z0, z1, z2, z3)
        clear hbk hst hi hi4
        obtain ⟨fr, hfr⟩ : ∃ fr, fr = freeOf s.uses := ⟨_, rfl⟩
        have hfn : fr ≤ nU := by rw [hfr, ← HL.out.2.1]; exact free_le _
        have HFR := Lib.hid hfr
        clear hfr
        by_cases hz0 : ((z0, z1, z2, z3) : Four) = zero4
        · have hb : zeroTo (z0, z1, z2, z3) 4 = true := by rw [hall]; exact decide_eq_true hz0
          have HE2 : Hid (m = nU ∧ ps = s.pages ∧ l = r.set k (-1)) := by
            have e1 : newPages s (z0, z1, z2, z3) = s.pages := if_pos hz0
            have e2 : newNum s (z0, z1, z2, z3) = -1 := if_pos hz0
            have e3 := HE.out.1
            have e4 := HE.out.2.1
            rw [e1] at e3
            rw [e2] at e4
            exact ⟨by rw [HM.out, e3, HL.out.1], e3, e4⟩
          rw [hb]
          obtain ⟨gl', cl', hv', -, hgl, hcl, hfl, -⟩ := int_at HST2.out.parts.uses HRK.out
          injection hv' with hv1 hv2 hv3
          injection hv1 with hv1
          injection hv1 with hv1
          subst hv1
          have HQ : Hid (PSt w (wr.setCell ⟨gl, k, none⟩ (.int .i64 (-1))) [.slice aP nU cP, .slice aU nU cU, .slice (some ⟨bR, oR, none⟩) nR cR] (.slice pa nU pc) (.slice (some ⟨gl, 0, none⟩) 16 lc) (.slice none 0 0) [] ⟨s.pages, r.set k (-1), []⟩) := HST2.out.setU rfl HRK.out (by unfold I64; omega)
          clear hall hz0 hb hv2 hv3 HST2 HBK
          go_wp2_with fail
          refine wp_loop_once ?_
          go_wp2_with fail
          all_goals go_meet
          all_goals exact ⟨_, _, pa, pc, rfl, by rw [HE2.out.1], by rw [HE2.out.1, HE2.out.2.1, HE2.out.2.2]; exact HQ.out⟩
        · have hb : zeroTo (z0, z1, z2, z3) 4 = false := by rw [hall]; exact decide_eq_false hz0
          rw [hb]
          have HNZ := Lib.hid hz0
          have t0 := HBK.out.cell (j := 0) rfl; have t1 := HBK.out.cell (j := 1) rfl; have t2 := HBK.out.cell (j := 2) rfl; have t3 := HBK.out.cell (j := 3) rfl
          clear hall hz0 hb
          go_wp2_with fail
          go_loopw [16, 17] (fun v16 v17 w' => nRel wr nU fr v16 v17 w') (fun _ i _ => nU + 1 - (intOf i).toNat)
          case atStart => exact ⟨rfl, .inl ⟨0, Nat.zero_le _, Nat.zero_le _, rfl, rfl⟩⟩
          case round =>
          obtain ⟨rfl, ⟨i, hi, hif, rfl, rfl⟩ | ⟨hfn2, rfl, rfl⟩⟩ := hrel
          · by_cases hin : i < nU
            · obtain ⟨u, hu⟩ : ∃ u, s.uses[i]? = some u := ⟨_, List.getElem?_eq_getElem (by rw [HL.out.2.1]; exact hin)⟩
              obtain ⟨bU, oU, rfl, hSU, hcu, -⟩ := arr_int (HST.out _ HST2.out.below).uses hu
              have hfa := free_at hu (by rw [← HFR.out]; exact hif)
              rw [← HFR.out] at hfa
              by_cases hu0 : u = 0
              · have hie : i = fr := hfa.1 hu0
                have d1 : (u == 0) = true := by simp [hu0]
                have HIE := Lib.hid hie
                clear hfa hu hu0 hie
                go_wp2_with fail
                go_roundw
                case rel => exact ⟨rfl, .inr ⟨by have := HIE.out; omega, by rw [← HIE.out], by rw [← HIE.out]; go_num⟩⟩
                case measure => simp [intOf]; omega
              · have hie : i ≠ fr := fun e => hu0 (hfa.2 e)
                have d1 : (u == 0) = false := by simp [hu0]
                have hif2 : i + 1 ≤ fr := by omega
                clear hfa hu hu0 hie
                go_wp2_with fail
                go_roundw
                case rel => exact ⟨rfl, .inl ⟨i + 1, by omega, hif2, rfl, by go_num⟩⟩
                case measure => simp [intOf]; omega
            · have hfr : fr = nU := by omega
              have HE2 : Hid (m = nU + 1 ∧ ps = s.pages ++ [(z0, z1, z2, z3)] ∧ l = r.set k (nU : Int)) := by
                have e1 : newPages s (z0, z1, z2, z3) = s.pages ++ [(z0, z1, z2, z3)] := by unfold newPages putPage; rw [if_neg HNZ.out, ← HFR.out, hfr, HL.out.1, if_neg (Nat.lt_irrefl _)]
                have e2 : newNum s (z0, z1, z2, z3) = (nU : Int) := by unfold newNum; rw [if_neg HNZ.out, ← HFR.out, hfr]
                have e3 := HE.out.1
                have e4 := HE.out.2.1
                rw [e1] at e3
                rw [e2] at e4
                exact ⟨by rw [HM.out, e3, List.length_append, HL.out.1]; rfl, e3, e4⟩
              have hin2 : i = nU := by omega
              subst hin2
              have HPO : Hid (Go.Bk.Own (fun _ => False) wr (w.heap.size + 2) 64 (.slice pa i pc) s.pages) := HST2.out.parts.pages
              have HCL : Hid (∀ w', Rep.cells (fun _ => False) w' (fourV (z0, z1, z2, z3)) ((z0, z1, z2, z3) : Four)) := fun w' => cells_int4_mk HZI.out.1 HZI.out.2.1 HZI.out.2.2.1 HZI.out.2.2.2
              have HSZ : Hid (w.heap.size + 2 ≤ wr.heap.size) := HST2.out.size
              have HL1 : Hid (s.pages.length = i) := HL.out.1
              obtain ⟨m2, hm2⟩ : ∃ m2, m2 = i + 1 := ⟨_, rfl⟩
              have him : i < m2 := by omega
              have HM2 : Hid (m2 = i + 1) := hm2
              have HAFT : Hid (∀ (w9 : World) (v9 : Value), Go.Bk.Own (fun _ => False) w9 (w.heap.size + 2) 64 v9 (s.pages ++ [(z0, z1, z2, z3)]) → wr.grownBy w9 (Value.slice pa i pc).ownBlock → Stay wr (.slice pa i pc) v9 →
                  ∃ g9 c9, v9 = .slice (some ⟨g9, 0, none⟩) m2 c9 ∧ Blk w9 gp 64 (fourV (z0, z1, z2, z3)) ∧ g9 < w9.heap.size ∧
                    (w9.cell? ⟨g9, i * 4, none⟩ = some (.int .i64 z0) ∧ w9.cell? ⟨g9, i * 4 + 1, none⟩ = some (.int .i64 z1) ∧ w9.cell? ⟨g9, i * 4 + 2, none⟩ = some (.int .i64 z2) ∧ w9.cell? ⟨g9, i * 4 + 3, none⟩ = some (.int .i64 z3)) ∧ (∀ j, w9.frozen? ⟨g9, j, none⟩ = false) ∧
                    ((((w9.setCell ⟨g9, i * 4, none⟩ (.int .i64 z0)).setCell ⟨g9, i * 4 + 1, none⟩ (.int .i64 z1)).setCell ⟨g9, i * 4 + 2, none⟩ (.int .i64 z2)).setCell ⟨g9, i * 4 + 3, none⟩ (.int .i64 z3)).cell? ⟨gl, k, none⟩ = some (.int .i64 rk) ∧
                    ((((w9.setCell ⟨g9, i * 4, none⟩ (.int .i64 z0)).setCell ⟨g9, i * 4 + 1, none⟩ (.int .i64 z1)).setCell ⟨g9, i * 4 + 2, none⟩ (.int .i64 z2)).setCell ⟨g9, i * 4 + 3, none⟩ (.int .i64 z3)).frozen? ⟨gl, k, none⟩ = false ∧
                    PSt w (((((w9.setCell ⟨g9, i * 4, none⟩ (.int .i64 z0)).setCell ⟨g9, i * 4 + 1, none⟩ (.int .i64 z1)).setCell ⟨g9, i * 4 + 2, none⟩ (.int .i64 z2)).setCell ⟨g9, i * 4 + 3, none⟩ (.int .i64 z3)).setCell ⟨gl, k, none⟩ (.int .i64 i)) [.slice aP i cP, .slice aU i cU, .slice (some ⟨bR, oR, none⟩) nR cR] (.slice (some ⟨g9, 0, none⟩) m2 c9) (.slice (some ⟨gl, 0, none⟩) 16 lc) (.slice none 0 0) [] ⟨s.pages ++ [(z0, z1, z2, z3)], r.set k i, []⟩) := fun w9 v9 ho hg hst => by
                have h9 := HST2.out.pushP ho hg hst
                have hmz : (s.pages ++ [(z0, z1, z2, z3)])[i]? = some (z0, z1, z2, z3) := by rw [← HL1.out, List.getElem?_append_right (Nat.le_refl _), Nat.sub_self]; rfl
                obtain ⟨g9, c9, hv9, -, hg9, hcc, hff⟩ := four_own_at h9.parts.pages hmz
                rw [List.length_append, HL1.out] at hv9
                change v9 = .slice (some ⟨g9, 0, none⟩) (i + 1) c9 at hv9
                rw [← HM2.out] at hv9
                subst hv9
                have h10 := h9.setP (k := i) (y := (z0, z1, z2, z3)) rfl hmz HZI.out
                have hset : (s.pages ++ [(z0, z1, z2, z3)]).set i (z0, z1, z2, z3) = s.pages ++ [(z0, z1, z2, z3)] := by rw [← HL1.out]; exact set_end _ _ _
                rw [hset] at h10
                obtain ⟨gl', cl', hv', -, -, hc2, hf2, -⟩ := int_at h10.parts.uses HRK.out
                injection hv' with hv'
                injection hv' with hv'
                injection hv' with hv'
                subst hv'
                exact ⟨g9, c9, rfl, HBK.out.keep (hg.block _ HBK.out.lt (fun e => HGP.out.2.p e.symm)), hg9, hcc, hff, hc2, hf2, h10.setU rfl HRK.out (by unfold I64; omega)⟩
              have hgpl := HBK.out.lt
              clear hfr hif hin hm2 HST2 HBK hml
              go_wp2_with (at_builtin; (with_reducible refine wp_appd4 rfl rfl rfl rfl rfl (by first | rfl | simp) HPO.out (HCL.out _) (fun _ h => h.elim) (by rw [HL1.out]; omega) HSZ.out fun v9 w9 hown9 hg9 hst9 => ?_); (obtain ⟨g9, c9, rfl, hbk9, hlt9, ⟨p0, p1, p2, p3⟩, hfz9, hc9, hf9, hps9⟩ := HAFT.out w9 v9 hown9 hg9 hst9); have HPS := Lib.hid hps9; have u0 := hbk9.cell (j := 0) rfl; have u1 := hbk9.cell (j := 1) rfl; have u2 := hbk9.cell (j := 2) rfl; have u3 := hbk9.cell (j := 3) rfl; have fz0 := hfz9 (i * 4); have fz1 := hfz9 (i * 4 + 1); have fz2 := hfz9 (i * 4 + 2); have fz3 := hfz9 (i * 4 + 3); clear hown9 hg9 hst9 hbk9 hfz9 hps9)
              go_meet
              exact ⟨_, _, _, _, rfl, by rw [HE2.out.1, ← HM2.out], by rw [HE2.out.1, ← HM2.out, HE2.out.2.1, HE2.out.2.2]; exact HPS.out⟩
          · have d1 : ¬ ((fr : Int) < 0) := by omega
            have d2 : decide ((fr : Int) < 0) = false := decide_eq_false d1
            have HE2 : Hid (m = nU ∧ ps = s.pages.set fr (z0, z1, z2, z3) ∧ l = r.set k (fr : Int)) := by
              have e1 : newPages s (z0, z1, z2, z3) = s.pages.set fr (z0, z1, z2, z3) := by unfold newPages putPage; rw [if_neg HNZ.out, ← HFR.out, HL.out.1, if_pos hfn2]
              have e2 : newNum s (z0, z1, z2, z3) = (fr : Int) := by unfold newNum; rw [if_neg HNZ.out, ← HFR.out]
              have e3 := HE.out.1
              have e4 := HE.out.2.1
              rw [e1] at e3
              rw [e2] at e4
              exact ⟨by rw [HM.out, e3, List.length_set, HL.out.1], e3, e4⟩
            obtain ⟨yf, hyf⟩ : ∃ y, s.pages[fr]? = some y := ⟨_, List.getElem?_eq_getElem (by rw [HL.out.1]; exact hfn2)⟩
            obtain ⟨g9, c9, hv9, -, hg9, ⟨p0, p1, p2, p3⟩, hfz9⟩ := four_own_at HST2.out.parts.pages hyf
            injection hv9 with hv1 hv2 hv3
            subst hv1 hv3
            have h10 := HST2.out.setP (k := fr) (y := (z0, z1, z2, z3)) rfl hyf HZI.out
            obtain ⟨gl', cl', hv', -, -, hc2, hf2, -⟩ := int_at h10.parts.uses HRK.out
            injection hv' with hv' hv5 hv6
            injection hv' with hv'
            injection hv' with hv'
            subst hv'
            clear hv5 hv6
            have HPS := Lib.hid (h10.setU rfl HRK.out (y := (fr : Int)) (by unfold I64; omega))
            have fz0 := hfz9 (fr * 4); have fz1 := hfz9 (fr * 4 + 1); have fz2 := hfz9 (fr * 4 + 2); have fz3 := hfz9 (fr * 4 + 3)
            have hc3 : ((((wr.setCell ⟨g9, fr * 4, none⟩ (.int .i64 z0)).setCell ⟨g9, fr * 4 + 1, none⟩ (.int .i64 z1)).setCell ⟨g9, fr * 4 + 2, none⟩ (.int .i64 z2)).setCell ⟨g9, fr * 4 + 3, none⟩ (.int .i64 z3)).cell? ⟨gl, k, none⟩ = some (.int .i64 rk) := hc2
            have hf3 : ((((wr.setCell ⟨g9, fr * 4, none⟩ (.int .i64 z0)).setCell ⟨g9, fr * 4 + 1, none⟩ (.int .i64 z1)).setCell ⟨g9, fr * 4 + 2, none⟩ (.int .i64 z2)).setCell ⟨g9, fr * 4 + 3, none⟩ (.int .i64 z3)).frozen? ⟨gl, k, none⟩ = false := hf2
            have hlq : (decide ((fr : Int) + 1 < (nU : Int)) = true ∧ (fr : Int) + 1 < (nU : Int)) ∨ (decide ((fr : Int) + 1 < (nU : Int)) = false ∧ ¬ (fr : Int) + 1 < (nU : Int)) := by
              by_cases hq : (fr : Int) + 1 < (nU : Int)
              · exact .inl ⟨decide_eq_true hq, hq⟩
              · exact .inr ⟨decide_eq_false hq, hq⟩
            clear h10 hc2 hf2 hfz9 hyf hv2 HST2 HBK hfn hml
            rcases hlq with ⟨d3, d4⟩ | ⟨d3, d4⟩
            all_goals go_wp2_with fail
            all_goals go_meet
            all_goals exact ⟨_, _, _, _, rfl, by rw [HE2.out.1], by rw [HE2.out.1, HE2.out.2.1, HE2.out.2.2]; exact HPS.out⟩
      case pos =>
      obtain ⟨yk, hyk⟩ : ∃ yk, yk = part4 (y0, y1, y2, y3) i := ⟨_, rfl⟩
      obtain ⟨zk, hzk⟩ : ∃ zk, zk = part4 (z0, z1, z2, z3) i := ⟨_, rfl⟩
      obtain ⟨bz, hbz⟩ : ∃ bz, (zk == 0) = bz := ⟨_, rfl⟩
      have HCK : Hid (Calls Try.prog 12 #[stV aP aU (some ⟨bR, oR, none⟩) nU nU nR cP cU cR, .int .i64 q, .int .i64 (at' - (j : Int) + (i : Int))] wr (CodePost wr yk)) := by
        have h1 := HGK.out i wr hi4 hst.below
        rwa [← hyk] at h1
      have hpk := HPK.out i hi4
      rw [← hzk, ← hyk] at hpk
      have HKK : Hid (∀ W, RowKit.Below wr.heap.size wr W → Blk W gp 64 (fourV (upTo (z0, z1, z2, z3) i)) ∧ PSt w W [.slice aP nU cP, .slice aU nU cU, .slice (some ⟨bR, oR, none⟩) nR cR] (.slice pa nU pc) (.slice (some ⟨gl, 0, none⟩) 16 lc) (.slice none 0 0) [] ⟨s.pages, r, []⟩) := fun W hW => ⟨HBK.out.keep (hW.block _ HBK.out.lt), HST2.out.keep hW⟩
      have hcx := fourV_at (upTo (z0, z1, z2, z3) i) hi4
      obtain ⟨ck, hck⟩ : ∃ ck, ck = part4 (upTo (z0, z1, z2, z3) i) i := ⟨_, rfl⟩
      rw [← hck] at hcx
      have HCX := Lib.hid hcx
      have HUP : Hid (∀ W u, Blk W gp 64 (fourV (upTo (z0, z1, z2, z3) i)) → PSt w W [.slice aP nU cP, .slice aU nU cU, .slice (some ⟨bR, oR, none⟩) nR cR] (.slice pa nU pc) (.slice (some ⟨gl, 0, none⟩) 16 lc) (.slice none 0 0) [] ⟨s.pages, r, []⟩ →
          (Blk (W.setCell ⟨gp, i, none⟩ (.int .i64 zk)) gp 64 (fourV (upTo (z0, z1, z2, z3) (i + 1))) ∧ PSt w (W.setCell ⟨gp, i, none⟩ (.int .i64 zk)) [.slice aP nU cP, .slice aU nU cU, .slice (some ⟨bR, oR, none⟩) nR cR] (.slice pa nU pc) (.slice (some ⟨gl, 0, none⟩) 16 lc) (.slice none 0 0) [] ⟨s.pages, r, []⟩) ∧
          (Blk ((W.setCell ⟨gp, i, none⟩ (.int .i64 u)).setCell ⟨gp, i, none⟩ (.int .i64 zk)) gp 64 (fourV (upTo (z0, z1, z2, z3) (i + 1))) ∧ PSt w ((W.setCell ⟨gp, i, none⟩ (.int .i64 u)).setCell ⟨gp, i, none⟩ (.int .i64 zk)) [.slice aP nU cP, .slice aU nU cU, .slice (some ⟨bR, oR, none⟩) nR cR] (.slice pa nU pc) (.slice (some ⟨gl, 0, none⟩) 16 lc) (.slice none 0 0) [] ⟨s.pages, r, []⟩)) := fun W u hb hp => by
        have h1 := hb.set i (.int .i64 zk)
        have h2 := (hb.set i (.int .i64 u)).set i (.int .i64 zk)
        rw [List.set_set] at h2
        rw [hzk, upTo_set _ hi4, ← hzk] at h1 h2
        have hg1 : W.grownBy (W.setCell ⟨gp, i, none⟩ (.int .i64 zk)) (some gp) := grownBy_setCell (World.grownBy.refl _ _) _ _
        have hg2 : W.grownBy ((W.setCell ⟨gp, i, none⟩ (.int .i64 u)).setCell ⟨gp, i, none⟩ (.int .i64 zk)) (some gp) := grownBy_setCell (grownBy_setCell (World.grownBy.refl _ _) _ _) _ _
        exact ⟨⟨h1, hp.far hg1 HGP.out.1 HGP.out.2⟩, ⟨h2, hp.far hg2 HGP.out.1 HGP.out.2⟩⟩
      have HZN : Hid (zeroTo (z0, z1, z2, z3) (i + 1) = (zeroTo (z0, z1, z2, z3) i && bz)) := by show _ = _; rw [← hbz, hzk]; rfl
      obtain ⟨b, hb⟩ : ∃ b, b = zeroTo (z0, z1, z2, z3) i := ⟨_, rfl⟩
      rw [← hb] at HZN ⊢
      clear hb hck hcx hyk hzk hbk hst HBK HST2
      by_cases hij : i = j
      case' pos =>
        rw [if_pos hij] at hpk
        subst hpk
        have d1 : ((i : Int) == (j : Int)) = true := by simp [hij]
        have HUQ := Lib.hid fun W h1 h2 => (HUP.out W yk h1 h2).2
        clear hij
      case' neg =>
        rw [if_neg hij] at hpk
        subst hpk
        have d1 : ((i : Int) == (j : Int)) = false := by simp; omega
        have HUQ := Lib.hid fun W h1 h2 => (HUP.out W zk h1 h2).1
        clear hij
      all_goals
        cases b
        all_goals
          go_wp2_with (go_at_call 12; (with_reducible refine HCK.out.mono ?_); rintro e w7 ⟨rfl, hb7⟩; (obtain ⟨hbk7, hst7⟩ := HKK.out w7 hb7); have pk := hbk7.cell (j := i) HCX.out; have fk := hbk7.frozen i; have hl7 := hbk7.lt; have HB7 := Lib.hid hbk7; have HS7 := Lib.hid hst7; clear hb7 hbk7 hst7)
          go_roundw
          case rel => exact ⟨i + 1, by omega, by go_num, by rw [HZN.out]; rfl, (HUQ.out w7 HB7.out HS7.out).1, (HUQ.out w7 HB7.out HS7.out).2⟩
          case measure => simp [intOf]; omega
  case rest =>
    clear HP4 HP5 HG4 x0 x1 x2
    obtain ⟨la, lc, pa, pc, rfl, rfl, hp⟩ := hcut
    have HP := Lib.hid hp
    have hlb := hp.box.lt
    clear hp
    obtain ⟨em, hem⟩ : ∃ em, em = emptyAt s.roots := ⟨_, rfl⟩
    have HEM := Lib.hid hem
    have heml : em ≤ nR := by rw [hem, ← HL.out.2.2]; exact empty_le _
    clear hem
    go_wp2_with fail
    go_loopw [18, 19, 20] (fun v18 v19 v20 w' => rRel w [.slice aP nU cP, .slice aU nU cU, .slice (some ⟨bR, oR, none⟩) nR cR] (.slice pa m pc) (.slice la 16 lc) ps l s.roots nR v18 v19 v20 w') (fun _ _ i _ => nR - (intOf i).toNat)
    case atStart => exact ⟨0, Nat.zero_le _, rfl, by unfold numTo; rw [if_neg (Nat.not_lt_zero _)], [], HP.out⟩
    case round =>
    clear HP hlb
    obtain ⟨i, hi, rfl, rfl, hs, hst⟩ := hrel
    obtain ⟨ra, rc, hre, -, -⟩ := hst.parts.roots.form
    have hti : (rootsTo s.roots l i).length = i := by unfold rootsTo; rw [List.length_take, List.length_set, HL.out.2.2]; omega
    change _ = Value.slice ra (rootsTo s.roots l i).length rc at hre
    rw [hti] at hre
    subst hre
    have HST2 := Lib.hid hst
    have HHL : Hid (hs.length = i) := by show _ = _; rw [hst.parts.roots.len]; exact hti
    have x0 := hst.box.cell (j := 0) rfl; have x2 := hst.box.cell (j := 2) rfl
    have hlt0 : w.heap.size < wr.heap.size := hst.box.lt
    have HSZ := Lib.hid hst.size
    have HRA : Hid (Go.Bk.Own (fun _ => False) wr (w.heap.size + 2) 23 (.slice ra i rc) hs) := hst.parts.roots.out
    obtain ⟨num, hnum⟩ : ∃ num, num = numTo s.roots i := ⟨_, rfl⟩
    have HNUM : Hid (num = if em < i then (em : Int) else -1) := by show _ = _; rw [hnum, HEM.out]; rfl
    rw [← hnum]
    clear hnum
    by_cases hin : i < nR
    case neg =>
      have hin2 : i = nR := by omega
      subst hin2
      have HTAKE : Hid (newRoots s.roots l = if em < i then rootsTo s.roots l i else rootsTo s.roots l i ++ [l]) := by
        have h1 := rootsTo_all s.roots l
        rw [HL.out.2.2, ← HEM.out] at h1
        exact h1
      have HN4 : Hid (n2 = if em < i then i else i + 1) := by rw [HEM.out]; exact HN2.out
      have HPR : Hid (PSt w wr [.slice aP nU cP, .slice aU nU cU, .slice (some ⟨bR, oR, none⟩) i cR] (.slice pa m pc) (.slice la 16 lc) (.slice ra i rc) hs ⟨ps, l, rootsTo s.roots l i⟩) := HST2.out
      have HONE : Hid ((Value.slice la 16 lc).oneCell' = true) := rfl
      clear hst HST2 hti
      go_upto_if 141 with fail
      clear x0 x2
      go_cut [18, 19] (fun s18 s19 wz => ∃ ra2 rc2 hs2, s18 = .slice ra2 n2 rc2 ∧ s19 = .int .i64 (em : Int) ∧ Go.Bk.Own (fun _ => False) wz (w.heap.size + 2) 64 (.slice pa m pc) ps ∧ RowsOwn wz (w.heap.size + 2) 23 3 (.slice ra2 n2 rc2) hs2 (newRoots s.roots l) ∧ Blk wz (w.heap.size + 1) 26 [.slice none 0 0, .slice none 0 0, .slice none 0 0] ∧ RowKit.Below w.heap.size w wz)
      case first =>
        by_cases hem2 : em < i
        · have hnm : num = (em : Int) := by rw [HNUM.out, if_pos hem2]
          have d1 : ¬ num < 0 := by omega
          have hn2 : n2 = i := by rw [HN4.out, if_pos hem2]
          have HNM := Lib.hid hnm
          have HEQ : Hid (n2 = i ∧ newRoots s.roots l = rootsTo s.roots l i) := ⟨hn2, by rw [HTAKE.out, if_pos hem2]⟩
          clear hnm hn2 hem2
          go_wp2_with fail
          go_meet
          exact ⟨ra, rc, hs, by rw [HEQ.out.1], by rw [HNM.out], HPR.out.parts.pages, by rw [HEQ.out.1, HEQ.out.2]; exact HPR.out.parts.roots, HPR.out.res, HPR.out.below⟩
        · have hnm : num = -1 := by rw [HNUM.out, if_neg hem2]
          have hn2 : n2 = i + 1 := by rw [HN4.out, if_neg hem2]
          have hei : em = i := by omega
          have HEQ : Hid (n2 = i + 1 ∧ em = i ∧ newRoots s.roots l = rootsTo s.roots l i ++ [l]) := ⟨hn2, hei, by rw [HTAKE.out, if_neg hem2]⟩
          subst hnm
          have HFR : Hid (∀ (W : World) (v : Value) (y : Hd), Go.Bk.Own (fun _ => False) W (w.heap.size + 2) 23 v (hs ++ [y]) → ∃ a c, v = .slice a (i + 1) c) := fun W v y h => by
            obtain ⟨a, c, e, -⟩ := h.arr
            exact ⟨a, c, by rw [e, List.length_append, HHL.out]; rfl⟩
          clear hn2 hem2 hei
          go_wp2_with (at_builtin; (with_reducible refine wp_appHd rfl rfl rfl rfl rfl (by first | rfl | simp) HRA.out HONE.out (by rw [HHL.out]; omega) HSZ.out fun v5 w5 hown5 hg5 hst5 => ?_); (obtain ⟨ra5, rc5, rfl⟩ := HFR.out _ _ _ hown5); have HO := Lib.hid hown5; have HG := Lib.hid hg5; have HSTY := Lib.hid hst5; clear hown5 hg5 hst5)
          go_meet
          obtain ⟨h1, h2, -, h4, h5⟩ := HPR.out.pushRow (x := ⟨.slice la 16 lc, HONE.out⟩) rfl HO.out HG.out HSTY.out
          exact ⟨ra5, rc5, _, by rw [HEQ.out.1], by rw [HEQ.out.2.1], h1, by rw [HEQ.out.1, HEQ.out.2.2]; exact h2, h4, h5⟩
      case rest =>
        clear HPR HTAKE HRA HNUM HHL HSZ hlt0 HST
        obtain ⟨ra2, rc2, hs2, rfl, rfl, hpg, hro, hrs, hbl⟩ := hcut
        have HB := Lib.hid hbl
        have HRS := Lib.hid hrs
        have HRO := Lib.hid hro
        have hrl := hrs.lt
        have g0 := hrs.cell (j := 0) rfl; have g1 := hrs.cell (j := 1) rfl; have g2 := hrs.cell (j := 2) rfl
        have f0 := hrs.frozen 0; have f1 := hrs.frozen 1; have f2 := hrs.frozen 2
        have hcs : (decide ((400 : Int) < (m : Int)) = true ∧ setOf s q at' v = ((⟨[], [], []⟩ : Store), (0 : Int), (2 : Int))) ∨ (decide ((400 : Int) < (m : Int)) = false ∧ decide ((40 : Int) < (n2 : Int)) = true ∧ setOf s q at' v = ((⟨[], [], []⟩ : Store), (0 : Int), (2 : Int))) ∨
            (decide ((400 : Int) < (m : Int)) = false ∧ decide ((40 : Int) < (n2 : Int)) = false ∧ n2 ≤ 40 ∧ setOf s q at' v = ((⟨ps, incTo us l 16, newRoots s.roots l⟩ : Store), (em : Int), (0 : Int))) := by
          rw [HSO.out, ← HEM.out]
          simp only [decide_eq_true_eq, decide_eq_false_iff_not]
          by_cases h1 : 400 < m
          · exact .inl ⟨by omega, if_pos (.inl h1)⟩
          · by_cases h2 : 40 < n2
            · exact .inr (.inl ⟨by omega, by omega, if_pos (.inr h2)⟩)
            · exact .inr (.inr ⟨by omega, by omega, by omega, if_neg (by omega)⟩)
        rcases hcs with ⟨t1d, hf0⟩ | ⟨t1d, t2d, hf0⟩ | ⟨t1d, t2d, hn40, hf0⟩
        · skip
          have HF0 := Lib.hid hf0
          clear hf0 hpg hro hrs hbl
          go_wp2_with fail
          (try simp only [Exit.inBlock, Exit.then])
          refine bodyPost_ret (results_cell_tmp2_row rfl _ _ _ _ _ _ _ rfl (((HRS.out.set 0 (.slice none 0 0)).set 1 (.slice none 0 0)).set 2 (.slice none 0 0)) Try.underlying26 rfl rfl) rfl ?_
          have hgr2 : wc.grownBy (((wc.setCell ⟨w.heap.size + 1, 0, none⟩ (.slice none 0 0)).setCell ⟨w.heap.size + 1, 1, none⟩ (.slice none 0 0)).setCell ⟨w.heap.size + 1, 2, none⟩ (.slice none 0 0)) (some (w.heap.size + 1)) := grownBy_setCell (grownBy_setCell (grownBy_setCell (World.grownBy.refl _ _) _ _) _ _) _ _
          exact ⟨none, none, none, 0, 0, 0, 0, 0, 0, by rw [HF0.out]; rfl, by rw [HF0.out]; exact nil_at _ _, HB.out.grown hgr2 HB.out.size (fun r hr => by cases hr; omega)⟩
        · skip
          have HF0 := Lib.hid hf0
          clear hf0 hpg hro hrs hbl
          go_wp2_with fail
          (try simp only [Exit.inBlock, Exit.then])
          refine bodyPost_ret (results_cell_tmp2_row rfl _ _ _ _ _ _ _ rfl (((HRS.out.set 0 (.slice none 0 0)).set 1 (.slice none 0 0)).set 2 (.slice none 0 0)) Try.underlying26 rfl rfl) rfl ?_
          have hgr2 : wc.grownBy (((wc.setCell ⟨w.heap.size + 1, 0, none⟩ (.slice none 0 0)).setCell ⟨w.heap.size + 1, 1, none⟩ (.slice none 0 0)).setCell ⟨w.heap.size + 1, 2, none⟩ (.slice none 0 0)) (some (w.heap.size + 1)) := grownBy_setCell (grownBy_setCell (grownBy_setCell (World.grownBy.refl _ _) _ _) _ _) _ _
          exact ⟨none, none, none, 0, 0, 0, 0, 0, 0, by rw [HF0.out]; rfl, by rw [HF0.out]; exact nil_at _ _, HB.out.grown hgr2 HB.out.size (fun r hr => by cases hr; omega)⟩
        · skip
          have HF0 := Lib.hid hf0
          obtain ⟨pa2, pc2, hpe, -, -, hpa⟩ := hpg.arr
          injection hpe with hpe1 hpe2 hpe3
          subst hpe1
          have HSA : Hid (StAt (fun b => False ∨ (w.heap.size + 2 ≤ b ∧ b < wc.heap.size)) wc pa none ra2 m 0 n2 ⟨ps, [], newRoots s.roots l⟩) :=
            ⟨hpa, Arr.nil _ _ _, hro.arr.mono fun b hb => .inr hb, HM.out.symm, rfl, HN3.out.symm⟩
          have hshort : Short ⟨ps, [], newRoots s.roots l⟩ := ⟨by show (newRoots s.roots l).length ≤ 1000; rw [← HN3.out]; omega, fun y hy => by
            rcases newRoots_mem hy with h1 | h1
            · have := (HT.out.right.1 y h1).1; omega
            · rw [h1, HLEN.out.2]; omega⟩
          have HCN : Hid (Calls Try.prog 39 #[stV pa none ra2 m 0 n2 pc 0 rc2] wc (fun e w6 => ∃ pa3 pc3 ua3 uc3, e = .returned (.agg #[.slice pa3 m pc3, .slice ua3 m uc3, .slice ra2 n2 rc2]) ∧ Go.Bk.Own (fun _ => False) w6 wc.heap.size 64 (.slice pa3 m pc3) ps ∧ Go.Bk.Own (fun _ => False) w6 wc.heap.size 3 (.slice ua3 m uc3) (incTo us l 16) ∧ RowKit.Below wc.heap.size wc w6)) :=
            (counted_any HSA.out (fun b hb => by rcases hb with h | h; exact h.elim; exact h.2) hshort (by omega) HSA.out.ints).mono fun e w6 ⟨vP, vU, he, hoP, hoU, hb6⟩ => by
              rw [HSM.out] at hoP hoU
              obtain ⟨pa3, pc3, e1, -⟩ := hoP.arr
              obtain ⟨ua3, uc3, e2, -⟩ := hoU.arr
              change vP = .slice pa3 ps.length pc3 at e1
              change vU = .slice ua3 (incTo us l 16).length uc3 at e2
              rw [← HM.out] at e1
              rw [inc_len, HLEN.out.1] at e2
              subst e1 e2
              exact ⟨pa3, pc3, ua3, uc3, he, hoP, hoU, hb6⟩
          have HRES : Hid (∀ w6, RowKit.Below wc.heap.size wc w6 → Blk w6 (w.heap.size + 1) 26 [.slice none 0 0, .slice none 0 0, .slice none 0 0]) := fun w6 hb => HRS.out.keep (hb.block _ HRS.out.lt)
          have HGR : Hid (∀ (w6 : World) v1 v2, w6.grownBy (((w6.setCell ⟨w.heap.size + 1, 0, none⟩ v1).setCell ⟨w.heap.size + 1, 1, none⟩ v2).setCell ⟨w.heap.size + 1, 2, none⟩ (.slice ra2 n2 rc2)) (some (w.heap.size + 1))) := fun w6 v1 v2 => grownBy_setCell (grownBy_setCell (grownBy_setCell (World.grownBy.refl _ _) _ _) _ _) _ _
          have HWS : Hid (w.heap.size + 2 ≤ wc.heap.size) := hrl
          clear hf0 hpg hro hrs hbl hpa hpe2 hpe3 hshort g0 g1 g2 f0 f1 f2 hrl HRS HSA
          go_wp2_with (go_at_call 39; (with_reducible refine HCN.out.mono ?_); rintro e w6 ⟨pa3, pc3, ua3, uc3, rfl, hoP, hoU, hb6⟩; have HOP := Lib.hid hoP; have HOU := Lib.hid hoU; have HB6 := Lib.hid hb6; have hr6 := HRES.out w6 hb6; have g0 := hr6.cell (j := 0) rfl; have g1 := hr6.cell (j := 1) rfl; have g2 := hr6.cell (j := 2) rfl; have f0 := hr6.frozen 0; have f1 := hr6.frozen 1; have f2 := hr6.frozen 2; have hr6lt := hr6.lt; have HR6 := Lib.hid hr6; clear hoP hoU hb6 hr6)
          (try simp only [Exit.inBlock, Exit.then])
          refine bodyPost_ret (results_cell_tmp2_row rfl _ _ _ _ _ _ _ rfl (((HR6.out.set 0 (.slice pa3 m pc3)).set 1 (.slice ua3 m uc3)).set 2 (.slice ra2 n2 rc2)) Try.underlying26 rfl rfl) rfl ?_
          have hgr := HGR.out w6 (.slice pa3 m pc3) (.slice ua3 m uc3)
          have hws := HWS.out
          have hoP := HOP.out.keep hgr (.inr fun e => by have := (HOP.out.lt _ e).1; omega) (fun _ h => h.elim)
          have hoU := HOU.out.keep hgr (.inr fun e => by have := (HOU.out.lt _ e).1; omega) (fun _ h => h.elim)
          have hoR := (HRO.out.below HB6.out).keepLow hgr (by omega)
          obtain ⟨pa4, pc4, e1, -, -, hpa⟩ := hoP.arr
          obtain ⟨ua4, uc4, e2, -, -, hua⟩ := hoU.arr
          injection e1 with e1 e3 e4
          injection e2 with e2 e5 e6
          subst e1 e2
          have hbel := HB.out.trans (HB6.out.mono HB.out.size)
          refine ⟨_, _, _, _, _, _, _, _, _, by rw [HF0.out]; rfl, ?_, hbel.grown hgr hbel.size (fun r hr => by cases hr; omega)⟩
          rw [HF0.out]
          refine ⟨hpa.mono fun b hb => ?_, hua.mono fun b hb => ?_, hoR.arr.mono fun b hb => ?_, e3.symm, e5.symm, HN3.out.symm⟩
          · rcases hb with h | h
            · exact h.elim
            · exact ⟨Nat.le_trans HB.out.size h.1, h.2⟩
          · rcases hb with h | h
            · exact h.elim
            · exact ⟨Nat.le_trans HB.out.size h.1, h.2⟩
          · exact ⟨by have := hb.1; omega, hb.2⟩
    case pos =>
    obtain ⟨x, hx⟩ : ∃ x, s.roots[i]? = some x := ⟨_, List.getElem?_eq_getElem (by rw [HL.out.2.2]; exact hin)⟩
    obtain ⟨b1, o1, a', c', hb1, hsb, q0, hlc, hn', harr⟩ := row_elem (HST.out _ hst.below).roots hx
    injection hb1 with hb1
    injection hb1 with hb1 ho1
    subst hb1 ho1
    have hlt1 : bR < wr.heap.size := Nat.lt_of_lt_of_le (HSS.out bR hsb) hst.below.size
    have hl16 : x.length ≤ 16 := by have := (HT.out.right.1 x (List.mem_of_getElem? hx)).1; omega
    have HX : Hid (s.roots[i]? = some x) := hx
    obtain ⟨mx, hmx⟩ : ∃ mx, mx = x.length := ⟨_, rfl⟩
    rw [← hmx] at q0 hl16
    have hro := rootsTo_at (r := l) hx
    rw [← HEM.out] at hro
    have hei : i ≤ em → (x = [] ↔ i = em) := fun h => by rw [HEM.out] at h ⊢; exact empty_is hx h
    have hnx : numTo s.roots (i + 1) = if em < i + 1 then (em : Int) else -1 := by rw [HEM.out]; rfl
    have HAX : Hid (Arr S (wr.alloc (.cells #[] 3)) a' x ∧ x.length = mx ∧ (a' = none → c' = 0) ∧ ([] : List Int).length + mx ≤ 1000000000) :=
      ⟨harr.keep fun b hb => ((RowKit.Below.refl wr.heap.size wr).alloc (Nat.le_refl _) _).block b (Nat.lt_of_lt_of_le (HSS.out b hb) hst.below.size), hmx.symm, hn', by simp; omega⟩
    obtain ⟨la2, lc2, hle, hlc2, hln, hla⟩ := hst.parts.uses.arr
    injection hle with hle1 hle2 hle3
    subst hle1 hle3
    have HAL : Hid (Arr (fun b => False ∨ w.heap.size + 2 ≤ b ∧ b < wr.heap.size) (wr.alloc (.cells #[] 3)) la l ∧ l.length = 16 ∧ (la = none → lc = 0) ∧ ([] : List Int).length + 16 ≤ 1000000000) :=
      ⟨hla.keep fun b hb => ((RowKit.Below.refl wr.heap.size wr).alloc (Nat.le_refl _) _).block b (by rcases hb with h | h; exact h.elim; exact h.2), HLEN.out.2, hln, by simp⟩
    have HE0 : Hid (Go.Bk.Own (fun _ => False) (wr.alloc (.cells #[] 3)) wr.heap.size 3 (.slice (some ⟨wr.heap.size, 0, none⟩) 0 0) ([] : List Int)) := own_zero (Nat.le_refl _) box_zero
    have HAF : Hid (∀ (y : List Int) (my : Nat) v4 w4, y.length = my → Go.Bk.Own (fun _ => False) w4 wr.heap.size 3 v4 ([] ++ y) → RowKit.Below wr.heap.size wr w4 → ∃ a4 c4, v4 = .slice a4 my c4 ∧ Go.Bk.Own (fun _ => False) w4 (w.heap.size + 2) 23 (.slice ra i rc) hs ∧ w.heap.size + 2 ≤ w4.heap.size ∧ Go.Bk.Own (fun _ => False) w4 wr.heap.size 3 v4 y) := fun y my v4 w4 hy ho hb => by
      obtain ⟨a4, c4, e, -⟩ := ho.arr
      exact ⟨a4, c4, by rw [e, List.nil_append, hy], (HST2.out.parts.roots.below hb).out, Nat.le_trans HSZ.out hb.size, ho⟩
    have HONE : Hid (∀ a4 m4 c4, (Value.slice a4 m4 c4).oneCell' = true) := fun _ _ _ => rfl
    clear hst harr hn' hla hln hlc2 hle2 hti
    by_cases hie : i = em
    case' pos =>
      have hxe : x = [] := (hei (by omega)).2 hie
      have hm0 : mx = 0 := by rw [hmx, hxe]; rfl
      have hnm : num = -1 := by rw [HNUM.out, if_neg (by omega)]
      have HY : Hid (rootsTo s.roots l (i + 1) = rootsTo s.roots l i ++ [l]) := by show _ = _; rw [hro, if_pos hie]
      have HNX : Hid (numTo s.roots (i + 1) = (i : Int)) := by show _ = _; rw [hnx, if_pos (by omega), hie]
      have HAY := HAL
      have HAFY := Lib.hid (fun v4 w4 => HAF.out l 16 v4 w4 HAL.out.2.1)
      have HONEY := Lib.hid (fun a4 c4 => HONE.out a4 16 c4)
      subst hnm hm0
      have d1 : ((0 : Int) == 0) = true := rfl
      clear hie hei hro hnx hmx hxe hx HAX HAF HAL HONE HNUM heml hsb
    case' neg =>
      by_cases hm0 : mx = 0
      case' pos =>
        have hxe : x = [] := List.eq_nil_of_length_eq_zero (by rw [← hmx]; exact hm0)
        have hlt : em < i := by
          rcases Nat.lt_or_ge em i with h | h
          · exact h
          · exact absurd ((hei h).1 hxe) hie
        have hnm : num = (em : Int) := by rw [HNUM.out, if_pos hlt]
        have d1 : ((mx : Int) == 0) = true := by simp [hm0]
        have d2 : decide (num < 0) = false := decide_eq_false (by omega)
        have HY : Hid (rootsTo s.roots l (i + 1) = rootsTo s.roots l i ++ [x]) := by show _ = _; rw [hro, if_neg hie]
        have HNX : Hid (numTo s.roots (i + 1) = num) := by show _ = _; rw [hnx, if_pos (by omega), hnm]
        have HAY := HAX
        have HAFY := Lib.hid (fun v4 w4 => HAF.out x mx v4 w4 HAX.out.2.1)
        have HONEY := Lib.hid (fun a4 c4 => HONE.out a4 mx c4)
        clear hie hei hro hnx hmx hxe hx HAX HAF HAL HONE HNUM heml hsb hm0 hnm hlt
      case' neg =>
        have hnm : numTo s.roots (i + 1) = num := by rw [hnx, HNUM.out]; split <;> split <;> first | rfl | omega
        have d1 : ((mx : Int) == 0) = false := by simp [hm0]
        have HY : Hid (rootsTo s.roots l (i + 1) = rootsTo s.roots l i ++ [x]) := by show _ = _; rw [hro, if_neg hie]
        have HNX : Hid (numTo s.roots (i + 1) = num) := hnm
        have HAY := HAX
        have HAFY := Lib.hid (fun v4 w4 => HAF.out x mx v4 w4 HAX.out.2.1)
        have HONEY := Lib.hid (fun a4 c4 => HONE.out a4 mx c4)
        clear hie hei hro hnx hmx hx HAX HAF HAL HONE HNUM heml hsb hm0 hnm
    all_goals
      go_wp2_with (first
        | (at_builtin; (at_builtin; with_reducible refine Try.wp_apps23 rfl rfl rfl rfl (HAY.out.2.1) (HE0.out) (HAY.out.1) Try.flat23 (HAY.out.2.2.1) (fun _ h => h.elim) (by exact HAY.out.2.2.2) (by first | omega | (simp; omega) | simp) fun v' w' hown' hg' => ?_); have hbw : RowKit.Below wr.heap.size wr w' := (box_below (n := 0) (c := 0) (by with_unfolding_all exact hg')); (obtain ⟨a4, c4, rfl, h43, h44, h45⟩ := HAFY.out _ _ hown' hbw); have HO4 := Lib.hid h43; have HZ4 := Lib.hid h44; have HW4 := Lib.hid h45; have HBW := Lib.hid hbw; clear hown' hg' hbw h43 h44 h45)
        | (at_builtin; (with_reducible refine wp_appHd rfl rfl rfl rfl rfl (by first | rfl | simp) HO4.out (HONEY.out a4 c4) (by rw [HHL.out]; omega) HZ4.out fun v5 w5 hown5 hg5 hst5 => ?_); have HO := Lib.hid hown5; have HG := Lib.hid hg5; have HSTY := Lib.hid hst5; clear hown5 hg5 hst5))
      go_roundw
      case rel => exact ⟨i + 1, by omega, by go_num, by rw [HNX.out], _, by rw [HY.out]; exact HST2.out.pushNew (x := ⟨.slice a4 _ c4, HONEY.out a4 c4⟩) HBW.out HW4.out HO.out HG.out HSTY.out⟩
      case measure => simp [intOf]; omega
end Go.Proofs.Ytjlnaiiajlahgaa.pag
