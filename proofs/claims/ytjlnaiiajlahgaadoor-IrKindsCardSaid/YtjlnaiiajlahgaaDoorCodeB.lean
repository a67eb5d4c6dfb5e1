/- code.Check: order: walked. -/
import Derived.Test.YtjlnaiiajlahgaaDoorCodeA
set_option linter.unusedVariables false
set_option linter.unusedSimpArgs false
namespace Go.Proofs.YtjlnaiiajlahgaaDoor.cod
open Go.Bk Go.RowKit Go.Proofs.YtjlnaiiajlahgaaDoor.funs

/-- A look at a function of a program, as the walks have it. -/
structure LkAt (S : Nat → Prop) (w : World) (a0 a3 a4 : Option Addr) (nF nC nT nA nO : Nat) (rg : Int) (gn : Bool) (p : Api.Prog) (f : Api.Fn) : Prop where
  fns : Arr S w a0 p.Fns
  caught : Arr S w a3 f.Caught
  code : Arr S w a4 f.Code
  lenF : nF = p.Fns.length
  lenC : nC = p.Consts.length
  lenT : nT = p.Texts.length
  lenA : nA = f.Caught.length
  lenO : nO = f.Code.length
  regs : rg = f.Regs
  gen : gn = f.Gen
  r1 : 1 ≤ rg
  r2 : rg ≤ 1000
  fewF : nF ≤ 1000
  fewC : nC ≤ 1000
  fewT : nT ≤ 1000
  fewO : nO ≤ 1000
theorem LkAt.keep {S : Nat → Prop} {w w' : World} {a0 a3 a4 : Option Addr} {nF nC nT nA nO : Nat} {rg : Int} {gn : Bool} {p : Api.Prog} {f : Api.Fn} (h : LkAt S w a0 a3 a4 nF nC nT nA nO rg gn p f) (hb : ∀ b, S b → w'.heap[b]? = w.heap[b]?) : LkAt S w' a0 a3 a4 nF nC nT nA nO rg gn p f :=
  ⟨h.fns.keep hb, h.caught.keep hb, h.code.keep hb, h.lenF, h.lenC, h.lenT, h.lenA, h.lenO, h.regs, h.gen, h.r1, h.r2, h.fewF, h.fewC, h.fewT, h.fewO⟩
theorem LkAt.fewA {S : Nat → Prop} {w : World} {a0 a3 a4 : Option Addr} {nF nC nT nA nO : Nat} {rg : Int} {gn : Bool} {p : Api.Prog} {f : Api.Fn} (h : LkAt S w a0 a3 a4 nF nC nT nA nO rg gn p f) : nA ≤ 9223372036854775807 := by
  rw [h.lenA]; have := h.caught.small; unfold maxLen at this; omega
theorem frm_letters {op : Int} {a b c : UInt8} (h : frm op = some (a, b, c)) : a ∈ letters ∧ b ∈ letters ∧ c ∈ letters := by
  have : ∀ k, k < 39 → 1 ≤ k → ∀ x : U3, tbl[k]? = some x → x.1 ∈ letters ∧ x.2.1 ∈ letters ∧ x.2.2 ∈ letters := by
    intro k hk h1 x hx
    have hm : x ∈ tbl.drop 1 := by
      refine List.mem_of_getElem? (i := k - 1) ?_
      rw [List.getElem?_drop, show 1 + (k - 1) = k by omega]
      exact hx
    have hall : ∀ y ∈ tbl.drop 1, y.1 ∈ letters ∧ y.2.1 ∈ letters ∧ y.2.2 ∈ letters := by decide
    exact hall x hm
  unfold frm at h
  split at h
  · cases h
  · exact this op.toNat (by omega) (by omega) _ h
theorem within_iff {n lo hi : Int} : within n lo hi = true ↔ lo ≤ n ∧ n ≤ hi := by unfold within; simp
abbrev insV (i : Api.Ins) : Value := .agg #[.int .i64 i.Op, .int .i64 i.A, .int .i64 i.B, .int .i64 i.C, .int .i64 i.Line]
section
variable {a0 a1 a2 a3 a4 : Option Addr} {nF c0 nC c1 nT c2 nA c3 nO c4 : Nat} {pa rg : Int} {gn : Bool}
set_option maxRecDepth 100000 in
set_option maxHeartbeats 4000000 in
theorem order_any {S : Nat → Prop} {w : World} {p : Api.Prog} {f : Api.Fn} {i : Api.Ins} {k : Nat} (h : LkAt S w a0 a3 a4 nF nC nT nA nO rg gn p f) (hS : ∀ b, S b → b < w.heap.size) :
    Calls Tryd.prog 85 #[lkV a0 a1 a2 a3 a4 nF c0 nC c1 nT c2 nA c3 nO c4 pa rg gn, .int .i64 k, insV i] w fun e w' => e = .returned (.bool (ordr p f k i)) ∧ RowKit.Below w.heap.size w w' := by
  obtain ⟨op, iA, iB, iC, iL⟩ := i
  show Calls Tryd.prog 85 #[lkV a0 a1 a2 a3 a4 nF c0 nC c1 nT c2 nA c3 nO c4 pa rg gn, .int .i64 k, .agg #[.int .i64 op, .int .i64 iA, .int .i64 iB, .int .i64 iC, .int .i64 iL]] w _
  have HN : Hid (∀ (w : World) c n, c ∈ letters → Calls Tryd.prog 115 #[lkV a0 a1 a2 a3 a4 nF c0 nC c1 nT c2 nA c3 nO c4 pa rg gn, .int .u8 c.toNat, .int .i64 n] w fun e w' => e = .returned (.bool (nam p f c n)) ∧ RowKit.Below w.heap.size w w') := fun w c n hc => names_any w c n hc h.r1 h.r2 h.fewF h.fewC h.fewT h.fewA h.fewO h.regs h.lenF h.lenC h.lenT h.lenA h.lenO
  have HWI : Hid (∀ (w : World) n lo hi, Calls Tryd.prog 114 #[.int .i64 n, .int .i64 lo, .int .i64 hi] w fun e w' => e = .returned (.bool (within n lo hi)) ∧ RowKit.Below w.heap.size w w') := fun w n lo hi => (within_any w n lo hi).mono fun e w' ⟨he, hw⟩ => ⟨he, hw ▸ RowKit.Below.refl _ _⟩
  have HFM : Hid (∀ w, Calls Tryd.prog 113 #[.int .i64 op] w fun e w' => e = .returned (.string (frmS op)) ∧ RowKit.Below w.heap.size w w') := fun w => form_any w op
  have HLK : Hid (∀ w', RowKit.Below w.heap.size w w' → LkAt S w' a0 a3 a4 nF nC nT nA nO rg gn p f) := fun w' hb => h.keep fun b hb' => hb.block b (hS b hb')
  have HSS : Hid (∀ b, S b → b < w.heap.size) := hS
  have z1 : (w.alloc (.cells #[.slice a0 nF c0, .slice a1 nC c1, .slice a2 nT c2, .int .i64 pa, .int .i64 rg, .bool gn, .slice a3 nA c3, .slice a4 nO c4] 167)).heap.size = w.heap.size + 1 := by simp
  have hb1 : RowKit.Below w.heap.size w ((w.alloc (.cells #[.slice a0 nF c0, .slice a1 nC c1, .slice a2 nT c2, .int .i64 pa, .int .i64 rg, .bool gn, .slice a3 nA c3, .slice a4 nO c4] 167)).alloc (.cells #[.int .i64 op, .int .i64 iA, .int .i64 iB, .int .i64 iC, .int .i64 iL] 169)) := (below_al2 _).alloc (by simp) _
  have hk1 : Blk ((w.alloc (.cells #[.slice a0 nF c0, .slice a1 nC c1, .slice a2 nT c2, .int .i64 pa, .int .i64 rg, .bool gn, .slice a3 nA c3, .slice a4 nO c4] 167)).alloc (.cells #[.int .i64 op, .int .i64 iA, .int .i64 iB, .int .i64 iC, .int .i64 iL] 169)) w.heap.size 167 (lkC a0 a1 a2 a3 a4 nF c0 nC c1 nT c2 nA c3 nO c4 pa rg gn) :=
    (blk_new w (lkC a0 a1 a2 a3 a4 nF c0 nC c1 nT c2 nA c3 nO c4 pa rg gn) 167).keep (Below.heap_alloc _ _ _ (by simp))
  have hk2 : Blk ((w.alloc (.cells #[.slice a0 nF c0, .slice a1 nC c1, .slice a2 nT c2, .int .i64 pa, .int .i64 rg, .bool gn, .slice a3 nA c3, .slice a4 nO c4] 167)).alloc (.cells #[.int .i64 op, .int .i64 iA, .int .i64 iB, .int .i64 iC, .int .i64 iL] 169)) (w.heap.size + 1) 169 [.int .i64 op, .int .i64 iA, .int .i64 iB, .int .i64 iC, .int .i64 iL] := by
    have := blk_new (w.alloc (.cells #[.slice a0 nF c0, .slice a1 nC c1, .slice a2 nT c2, .int .i64 pa, .int .i64 rg, .bool gn, .slice a3 nA c3, .slice a4 nO c4] 167)) [.int .i64 op, .int .i64 iA, .int .i64 iB, .int .i64 iC, .int .i64 iL] 169
    rwa [z1] at this
  obtain ⟨w2, hw2⟩ : ∃ w2, w2 = (w.alloc (.cells #[.slice a0 nF c0, .slice a1 nC c1, .slice a2 nT c2, .int .i64 pa, .int .i64 rg, .bool gn, .slice a3 nA c3, .slice a4 nO c4] 167)).alloc (.cells #[.int .i64 op, .int .i64 iA, .int .i64 iB, .int .i64 iC, .int .i64 iL] 169) := ⟨_, rfl⟩
  rw [← hw2] at hb1 hk1 hk2
  have HB2 : Hid (RowKit.Below w.heap.size w w2 ∧ Blk w2 w.heap.size 167 (lkC a0 a1 a2 a3 a4 nF c0 nC c1 nT c2 nA c3 nO c4 pa rg gn) ∧ Blk w2 (w.heap.size + 1) 169 [.int .i64 op, .int .i64 iA, .int .i64 iB, .int .i64 iC, .int .i64 iL]) := ⟨hb1, hk1, hk2⟩
  -- the cells of both boxes, in whatever later world
  have HCE : Hid (∀ w', RowKit.Below w2.heap.size w2 w' → Blk w' w.heap.size 167 (lkC a0 a1 a2 a3 a4 nF c0 nC c1 nT c2 nA c3 nO c4 pa rg gn) ∧ Blk w' (w.heap.size + 1) 169 [.int .i64 op, .int .i64 iA, .int .i64 iB, .int .i64 iC, .int .i64 iL]) := fun w' hb => ⟨hk1.keep (hb.block _ hk1.lt), hk2.keep (hb.block _ hk2.lt)⟩
  have HOP : Hid (ordr p f k ⟨op, iA, iB, iC, iL⟩ = match frm op with
    | none => false
    | some (a, b, c) => within iL 0 2000 && (nam p f a iA && (nam p f b iB && (nam p f c iC && tail p f k ⟨op, iA, iB, iC, iL⟩)))) := rfl
  have y0 := hk2.cell (j := 0) rfl
  clear h hS hb1 hk1 hk2 z1
  go_enter Tryd.func85, Tryd.ntmps85
  go_upto_region 1 with fail
  rw [← hw2]
  clear hw2
  go_upto_region 2 with (go_at_call 113; (with_reducible refine (HFM.out _).mono ?_); rintro e w3 ⟨rfl, hb⟩; have HB3 := Lib.hid hb; clear hb)
  have HB4 : Hid (RowKit.Below w.heap.size w w3) := HB2.out.1.trans (HB3.out.mono HB2.out.1.size)
  obtain ⟨hq1, hq2⟩ := HCE.out w3 HB3.out
  have p0 := hq1.cell (j := 0) rfl; have p1 := hq1.cell (j := 1) rfl; have p2 := hq1.cell (j := 2) rfl; have p3 := hq1.cell (j := 3) rfl; have p4 := hq1.cell (j := 4) rfl; have p5 := hq1.cell (j := 5) rfl; have p6 := hq1.cell (j := 6) rfl; have p7 := hq1.cell (j := 7) rfl
  have q0 := hq2.cell (j := 0) rfl; have q1 := hq2.cell (j := 1) rfl; have q2 := hq2.cell (j := 2) rfl; have q3 := hq2.cell (j := 3) rfl; have q4 := hq2.cell (j := 4) rfl
  have hl1 := hq1.lt; have hl2 := hq2.lt
  clear hq1 hq2 y0
  have hfin : ∀ wd, RowKit.Below w3.heap.size w3 wd → RowKit.Below w.heap.size w wd := fun wd hb => HB4.out.trans (hb.mono HB4.out.size)
  have HFIN := Lib.hid hfin
  clear hfin
  cases hfr : frm op with
  | none =>
    have hs : frmS op = ⟨#[]⟩ := by unfold frmS; rw [hfr]
    have HR : Hid (ordr p f k ⟨op, iA, iB, iC, iL⟩ = false) := by show _ = _; rw [HOP.out, hfr]
    rw [hs]
    clear hs hfr
    first | (refine wp_region_drift_lit (by kernel_rfl) (by kernel_rfl) (fun hdr => ?_); (repeat (go_big_quiet_step (fail))); refine wpQuiet_nil ?_; intro wq hw'; obtain ⟨⟨wd, hbd⟩, hw''⟩ := hw'; dsimp only at hw''; subst wq; clear hdr)
    go_wp2_with fail
    go_ret
    exact ⟨by rw [HR.out]; rfl, HFIN.out _ hbd⟩
  | some x =>
    obtain ⟨a, b, c⟩ := x
    obtain ⟨la, lb, lc⟩ := frm_letters hfr
    have hs : frmS op = ⟨#[a, b, c]⟩ := by unfold frmS; rw [hfr]; rfl
    have HRR : Hid (ordr p f k ⟨op, iA, iB, iC, iL⟩ = (within iL 0 2000 && (nam p f a iA && (nam p f b iB && (nam p f c iC && tail p f k ⟨op, iA, iB, iC, iL⟩))))) := by show _ = _; rw [HOP.out, hfr]
    have HFR := Lib.hid hfr
    obtain ⟨x1, hx1⟩ : ∃ x, x = within iL 0 2000 := ⟨_, rfl⟩
    obtain ⟨x2, hx2⟩ : ∃ x, x = nam p f a iA := ⟨_, rfl⟩
    obtain ⟨x3, hx3⟩ : ∃ x, x = nam p f b iB := ⟨_, rfl⟩
    obtain ⟨x4, hx4⟩ : ∃ x, x = nam p f c iC := ⟨_, rfl⟩
    have HW1 : Hid (∀ d : Drift w3, Calls Tryd.prog 114 #[.int .i64 iL, .int .i64 0, .int .i64 2000] d.val fun e w' => e = .returned (.bool x1) ∧ RowKit.Below d.val.heap.size d.val w') := fun d => by rw [hx1]; exact HWI.out _ _ _ _
    have HN1 : Hid (∀ d : Drift w3, Calls Tryd.prog 115 #[lkV a0 a1 a2 a3 a4 nF c0 nC c1 nT c2 nA c3 nO c4 pa rg gn, .int .u8 a.toNat, .int .i64 iA] d.val fun e w' => e = .returned (.bool x2) ∧ RowKit.Below d.val.heap.size d.val w') := fun d => by rw [hx2]; exact HN.out _ a iA la
    have HN2 : Hid (∀ d : Drift w3, Calls Tryd.prog 115 #[lkV a0 a1 a2 a3 a4 nF c0 nC c1 nT c2 nA c3 nO c4 pa rg gn, .int .u8 b.toNat, .int .i64 iB] d.val fun e w' => e = .returned (.bool x3) ∧ RowKit.Below d.val.heap.size d.val w') := fun d => by rw [hx3]; exact HN.out _ b iB lb
    have HN3 : Hid (∀ d : Drift w3, Calls Tryd.prog 115 #[lkV a0 a1 a2 a3 a4 nF c0 nC c1 nT c2 nA c3 nO c4 pa rg gn, .int .u8 c.toNat, .int .i64 iC] d.val fun e w' => e = .returned (.bool x4) ∧ RowKit.Below d.val.heap.size d.val w') := fun d => by rw [hx4]; exact HN.out _ c iC lc
    have HXX : Hid (x1 = within iL 0 2000 ∧ x2 = nam p f a iA ∧ x3 = nam p f b iB ∧ x4 = nam p f c iC) := ⟨hx1, hx2, hx3, hx4⟩
    rw [← hx1, ← hx2, ← hx3, ← hx4] at HRR
    have g0 : ∀ h, (⟨#[a, b, c]⟩ : ByteArray)[0]'h = a := fun _ => rfl
    have g1 : ∀ h, (⟨#[a, b, c]⟩ : ByteArray)[1]'h = b := fun _ => rfl
    have g2 : ∀ h, (⟨#[a, b, c]⟩ : ByteArray)[2]'h = c := fun _ => rfl
    rw [hs]
    clear hs hfr la lb lc hx1 hx2 hx3 hx4
    cases x1
    · clear HXX
      first | (refine wp_region_drift_lit (by kernel_rfl) (by kernel_rfl) (fun hdr => ?_); (repeat (go_big_quiet_step ((go_at_call 114; exact drift_of (HW1.out _))))); refine wpQuiet_nil ?_; intro wq hw'; obtain ⟨⟨wd, hbd⟩, hw''⟩ := hw'; dsimp only at hw''; subst wq; clear hdr)
      go_wp2_with fail
      go_ret
      exact ⟨by rw [HRR.out]; rfl, HFIN.out _ hbd⟩
    cases x2
    · clear HXX
      first | (refine wp_region_drift_lit (by kernel_rfl) (by kernel_rfl) (fun hdr => ?_); (repeat (go_big_quiet_step ((first | (go_at_call 114; exact drift_of (HW1.out _)) | (go_at_call 115; with_reducible exact drift_of (HN1.out _)))))); refine wpQuiet_nil ?_; intro wq hw'; obtain ⟨⟨wd, hbd⟩, hw''⟩ := hw'; dsimp only at hw''; subst wq; clear hdr)
      go_wp2_with fail
      go_ret
      exact ⟨by rw [HRR.out]; rfl, HFIN.out _ hbd⟩
    cases x3
    · clear HXX
      first | (refine wp_region_drift_lit (by kernel_rfl) (by kernel_rfl) (fun hdr => ?_); (repeat (go_big_quiet_step ((first | (go_at_call 114; exact drift_of (HW1.out _)) | (go_at_call 115; with_reducible exact drift_of (HN1.out _)) | (go_at_call 115; with_reducible exact drift_of (HN2.out _)))))); refine wpQuiet_nil ?_; intro wq hw'; obtain ⟨⟨wd, hbd⟩, hw''⟩ := hw'; dsimp only at hw''; subst wq; clear hdr)
      go_wp2_with fail
      go_ret
      exact ⟨by rw [HRR.out]; rfl, HFIN.out _ hbd⟩
    cases x4
    · clear HXX
      first | (refine wp_region_drift_lit (by kernel_rfl) (by kernel_rfl) (fun hdr => ?_); (repeat (go_big_quiet_step ((first | (go_at_call 114; exact drift_of (HW1.out _)) | (go_at_call 115; with_reducible exact drift_of (HN1.out _)) | (go_at_call 115; with_reducible exact drift_of (HN2.out _)) | (go_at_call 115; with_reducible exact drift_of (HN3.out _)))))); refine wpQuiet_nil ?_; intro wq hw'; obtain ⟨⟨wd, hbd⟩, hw''⟩ := hw'; dsimp only at hw''; subst wq; clear hdr)
      go_wp2_with fail
      go_ret
      exact ⟨by rw [HRR.out]; rfl, HFIN.out _ hbd⟩
    · first | (refine wp_region_drift_lit (by kernel_rfl) (by kernel_rfl) (fun hdr => ?_); (repeat (go_big_quiet_step ((first | (go_at_call 114; exact drift_of (HW1.out _)) | (go_at_call 115; with_reducible exact drift_of (HN1.out _)) | (go_at_call 115; with_reducible exact drift_of (HN2.out _)) | (go_at_call 115; with_reducible exact drift_of (HN3.out _)))))); refine wpQuiet_nil ?_; intro wq hw'; obtain ⟨⟨wd, hbd⟩, hw''⟩ := hw'; dsimp only at hw''; subst wq; clear hdr)
      have h23 : RowKit.Below w2.heap.size w2 wd := HB3.out.trans (hbd.mono HB3.out.size)
      have HBF := Lib.hid (HFIN.out _ hbd)
      obtain ⟨hq1, hq2⟩ := HCE.out wd h23
      clear p0 p1 p2 p3 p4 p5 p6 p7 q0 q1 q2 q3 q4 hl1 hl2
      have p0 := hq1.cell (j := 0) rfl; have p1 := hq1.cell (j := 1) rfl; have p2 := hq1.cell (j := 2) rfl; have p3 := hq1.cell (j := 3) rfl; have p4 := hq1.cell (j := 4) rfl; have p5 := hq1.cell (j := 5) rfl; have p6 := hq1.cell (j := 6) rfl; have p7 := hq1.cell (j := 7) rfl
      have q0 := hq2.cell (j := 0) rfl; have q1 := hq2.cell (j := 1) rfl; have q2 := hq2.cell (j := 2) rfl; have q3 := hq2.cell (j := 3) rfl; have q4 := hq2.cell (j := 4) rfl
      have hl1 := hq1.lt; have hl2 := hq2.lt
      have HRT : Hid (ordr p f k ⟨op, iA, iB, iC, iL⟩ = tail p f k ⟨op, iA, iB, iC, iL⟩) := by show _ = _; rw [HRR.out]; rfl
      have lk := HLK.out wd HBF.out
      have HLW := Lib.hid lk
      have hr1 := lk.r1; have hr2 := lk.r2
      clear hbd hq1 hq2 h23 HW1 HN1 HN2 HN3 HRR HOP g0 g1 g2 lk HCE
      by_cases o14 : op = 14
      · subst o14
        have HT : Hid (tail p f k ⟨14, iA, iB, iC, iL⟩ = decide (iA ≤ (k : Int))) := rfl
        go_wp2_with fail
        go_ret
        exact ⟨by rw [HRT.out, HT.out]; rfl, HBF.out⟩
      have n14 : (op == 14) = false := by simpa using o14
      by_cases o19 : op = 19
      · subst o19
        have e := HFR.out
        rw [show frm 19 = some (114, 108, 110) from rfl] at e
        injection e with e
        injection e with ea e
        injection e with eb ec
        subst ea eb ec
        have hB : within iB 0 f.Regs = true := by rw [HXX.out.2.2.1]; simp [nam]
        have hC : within iC 0 f.Regs = true := by rw [HXX.out.2.2.2]; simp [nam]
        rw [within_iff, ← HLW.out.regs] at hB hC
        obtain ⟨hB1, hB2⟩ := hB
        obtain ⟨hC1, hC2⟩ := hC
        have HT : Hid (tail p f k ⟨19, iA, iB, iC, iL⟩ = decide (iB + iC ≤ rg)) := by show _ = _; rw [HLW.out.regs]; rfl
        clear o14
        go_wp2_with fail
        go_ret
        exact ⟨by rw [HRT.out, HT.out]; rfl, HBF.out⟩
      have n19 : (op == 19) = false := by simpa using o19
      by_cases o27 : op = 27
      · subst o27
        have e := HFR.out
        rw [show frm 27 = some (114, 99, 110) from rfl] at e
        injection e with e
        injection e with ea e
        injection e with eb ec
        subst ea eb ec
        have hB : within iB 0 f.Regs = true := by rw [HXX.out.2.2.1]; simp [nam]
        have hC : within iC 0 f.Regs = true := by rw [HXX.out.2.2.2]; simp [nam]
        rw [within_iff, ← HLW.out.regs] at hB hC
        obtain ⟨hB1, hB2⟩ := hB
        obtain ⟨hC1, hC2⟩ := hC
        have HT : Hid (tail p f k ⟨27, iA, iB, iC, iL⟩ = within (iB + iC) 0 (rg - 1)) := by show _ = _; rw [HLW.out.regs]; rfl
        have HRG : Hid (∀ w n, Calls Tryd.prog 116 #[lkV a0 a1 a2 a3 a4 nF c0 nC c1 nT c2 nA c3 nO c4 pa rg gn, .int .i64 n] w fun e w' => e = .returned (.bool (within n 0 (rg - 1))) ∧ RowKit.Below w.heap.size w w') := fun w n => reg_any w n HLW.out.r1 HLW.out.r2
        clear o14 o19
        go_wp2_with (go_at_call 116; (with_reducible refine (HRG.out _ _).mono ?_); rintro e w6 ⟨rfl, hb⟩; have HB6 := Lib.hid (HBF.out.trans (hb.mono HBF.out.size)); clear hb)
        go_ret
        exact ⟨by rw [HRT.out, HT.out]; rfl, HB6.out⟩
      have n27 : (op == 27) = false := by simpa using o27
      by_cases o26 : op = 26
      · subst o26
        have e := HFR.out
        rw [show frm 26 = some (114, 102, 45) from rfl] at e
        injection e with e
        injection e with ea e
        injection e with eb ec
        subst ea eb ec
        have hB : within iB 1 ((p.Fns.length : Int) - 1) = true := by rw [HXX.out.2.2.1]; simp [nam]
        rw [within_iff, ← HLW.out.lenF] at hB
        obtain ⟨q, rfl⟩ : ∃ q : Nat, iB = q := ⟨iB.toNat, by omega⟩
        have hqF : q < nF := by omega
        obtain ⟨gq, hgq⟩ : ∃ g, p.Fns[q]? = some g := ⟨_, List.getElem?_eq_getElem (by rw [← HLW.out.lenF]; exact hqF)⟩
        have HT : Hid (tail p f k ⟨26, iA, q, iC, iL⟩ = caughtOk f gq) := by
          show (match p.Fns[((q : Nat) : Int).toNat]? with | some g => caughtOk f g | none => true) = _
          rw [show ((q : Nat) : Int).toNat = q from rfl, hgq]
        obtain ⟨b1, o1, d3, e3, d4, e4, rfl, hs1, k0, k1, k2, k3, k4, -, -, hq3, -⟩ := api_Fn_elem HLW.out.fns hgq
        have hlf : b1 < wd.heap.size := Nat.lt_of_lt_of_le (HSS.out b1 hs1) HBF.out.size
        obtain ⟨nQ, hnQ⟩ : ∃ n, n = gq.Caught.length := ⟨_, rfl⟩
        have HCA : Hid (∀ d : Drift wd, Calls Tryd.prog 117 #[lkV (some ⟨b1, o1, none⟩) a1 a2 a3 a4 nF c0 nC c1 nT c2 nA c3 nO c4 pa rg gn, .agg #[.int .i64 gq.Params, .int .i64 gq.Regs, .bool gq.Gen, .slice d3 nQ e3, .slice d4 gq.Code.length e4]] d.val fun e w' => e = .returned (.bool (caughtOk f gq)) ∧ RowKit.Below d.val.heap.size d.val w') := fun d =>
          caught_any (S := S) (hq3.2.2.keep fun b hb => d.below.block b (Nat.lt_of_lt_of_le (HSS.out b hb) HBF.out.size)) (fun b hb => Nat.lt_of_lt_of_le (HSS.out b hb) (Nat.le_trans HBF.out.size d.below.size)) HLW.out.r1 HLW.out.r2 HLW.out.fewA HLW.out.regs HLW.out.lenA nQ hnQ
        rw [← hnQ] at k3
        obtain ⟨ck, hck⟩ : ∃ ck, ck = caughtOk f gq := ⟨_, rfl⟩
        rw [← hck] at HT HCA
        have hqz : (q : Int) < (nF : Int) := by omega
        clear o14 o19 o27 hgq hq3 hnQ hB hck
        go_wp2_with fail
        first | (refine wp_region_drift_lit (by kernel_rfl) (by kernel_rfl) (fun hdr => ?_); (repeat (go_big_quiet_step ((go_at_call 117; with_reducible exact drift_of (HCA.out _))))); refine wpQuiet_nil ?_; intro wq hw'; obtain ⟨⟨wd, hbd⟩, hw''⟩ := hw'; dsimp only at hw''; subst wq; clear hdr)
        go_wp2_with fail
        go_ret
        exact ⟨by rw [HRT.out, HT.out]; rfl, HBF.out.trans (hbd.mono HBF.out.size)⟩
      have n26 : (op == 26) = false := by simpa using o26
      by_cases o32 : op = 32
      · subst o32
        have HT : Hid (tail p f k ⟨32, iA, iB, iC, iL⟩ = gn) := by show _ = _; rw [HLW.out.gen]; rfl
        clear o14 o19 o27 o26
        go_wp2_with fail
        go_ret
        exact ⟨by rw [HRT.out, HT.out]; rfl, HBF.out⟩
      · have n32 : (op == 32) = false := by simpa using o32
        have HT : Hid (tail p f k ⟨op, iA, iB, iC, iL⟩ = true) := by
          show _ = _
          unfold tail
          rw [if_neg o14, if_neg o19, if_neg o27, if_neg o26, if_neg o32]
        clear o14 o19 o27 o26 o32
        go_wp2_with fail
        go_ret
        exact ⟨by rw [HRT.out, HT.out]; rfl, HBF.out⟩
end
end Go.Proofs.YtjlnaiiajlahgaaDoor.cod
