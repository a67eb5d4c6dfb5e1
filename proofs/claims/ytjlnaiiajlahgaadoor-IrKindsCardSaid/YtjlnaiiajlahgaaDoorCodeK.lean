/- code.Check: walked: what it answers, whatever program. -/
import Derived.Test.YtjlnaiiajlahgaaDoorCodeJ
set_option linter.unusedVariables false
set_option linter.unusedSimpArgs false
namespace Go.Proofs.YtjlnaiiajlahgaaDoor.cod
open Go.Bk Go.RowKit Go.Maps Go.Proofs.YtjlnaiiajlahgaaDoor.funs

/-- Is the first function such as it must be? -/
def mainOk (p : Api.Prog) : Bool := match p.Fns with
  | [] => false
  | f :: _ => decide (f.Params = 0) && (decide (f.Caught = []) && !f.Gen)
/-- The number that it answers: 0 that it is right. -/
def codeChk (p : Api.Prog) : Int :=
  if large p = true then 2
  else if tablesOk p = false then 3
  else if mainOk p = false then 3
  else if (p.Fns.any fun f => !funcOk p f) = true then 3
  else 0
section
variable {a0 a1 a2 : Option Addr} {nF c0 nC c1 nT c2 : Nat}
theorem fn_bounds {p : Api.Prog} (h : large p = false) : p.Fns.length ≤ 60 ∧ p.Consts.length ≤ 200 ∧ p.Texts.length ≤ 200 ∧ ∀ f ∈ p.Fns, f.Code.length ≤ 600 ∧ f.Regs ≤ 60 := by
  unfold large at h
  simp only [Bool.or_eq_false_iff, decide_eq_false_iff_not, List.any_eq_false, Bool.or_eq_true, decide_eq_true_eq] at h
  obtain ⟨h1, h2, h3, h4, h5⟩ := h
  refine ⟨by omega, by omega, by omega, fun f hf => ?_⟩
  have := h5 f hf
  omega
set_option maxRecDepth 100000 in
theorem checkF_any {S : Nat → Prop} {p : Api.Prog} {f : Api.Fn} {cs : List Value} {g : Nat} {w : World} (hl : large p = false) (hm : f ∈ p.Fns) (hb : Blk w g 52 [.slice a0 nF c0, .slice a1 nC c1, .slice a2 nT c2]) (h : PgAt S w a0 a1 a2 nF nC nT p) (hS : ∀ b, S b → b < w.heap.size) (hc : Rep.cells S w cs f) :
    Calls Tryd.prog 57 #[.agg cs.toArray, .pointer (some ⟨g, 0, none⟩)] w fun e w' => e = .returned (.bool (!funcOk p f)) ∧ Grow w w' := by
  obtain ⟨b1, b2, b3, b4⟩ := fn_bounds hl
  obtain ⟨b5, b6⟩ := b4 f hm
  obtain ⟨a3, c3, a4, c4, rfl, -, -, hq3, hq4⟩ := api_Fn_cells_eq hc
  obtain ⟨n3, hn3⟩ : ∃ n, n = f.Caught.length := ⟨_, rfl⟩
  obtain ⟨n4, hn4⟩ : ∃ n, n = f.Code.length := ⟨_, rfl⟩
  rw [← hn3, ← hn4]
  obtain ⟨w1, hw1⟩ : ∃ w1, w1 = w.alloc (.cells #[.int .i64 f.Params, .int .i64 f.Regs, .bool f.Gen, .slice a3 n3 c3, .slice a4 n4 c4] 128) := ⟨_, rfl⟩
  have HB1 : Hid (RowKit.Below w.heap.size w w1) := by show RowKit.Below _ _ _; rw [hw1]; exact below_al2 _
  have hbk := blk_new w [.int .i64 f.Params, .int .i64 f.Regs, .bool f.Gen, .slice a3 n3 c3, .slice a4 n4 c4] 128
  rw [← hw1] at hbk
  have hk : ∀ b, S b → w1.heap[b]? = w.heap[b]? := fun b hb' => HB1.out.block b (hS b hb')
  have hbp := hb.keep (HB1.out.block _ hb.lt)
  obtain ⟨ok, hok⟩ : ∃ ok, ok = funcOk p f := ⟨_, rfl⟩
  have HFN : Hid (Calls Tryd.prog 58 #[.agg #[.slice a0 nF c0, .slice a1 nC c1, .slice a2 nT c2], .agg #[.int .i64 f.Params, .int .i64 f.Regs, .bool f.Gen, .slice a3 n3 c3, .slice a4 n4 c4]] w1 fun e w' => e = .returned (.bool ok) ∧ RowKit.Below w1.heap.size w1 w') := by
    rw [hok]
    exact function_any (h.keep hk) (hq3.2.2.keep hk) (hq4.2.2.keep hk) (fun b hb' => Nat.lt_of_lt_of_le (hS b hb') HB1.out.size) hn3 hn4 rfl rfl rfl (by rw [h.lenF]; omega) (by rw [h.lenC]; omega) (by rw [h.lenT]; omega) (by omega) (by omega)
  rw [← hok]
  have p0 := hbk.cell (j := 0) rfl; have p1 := hbk.cell (j := 1) rfl; have p2 := hbk.cell (j := 2) rfl; have p3 := hbk.cell (j := 3) rfl; have p4 := hbk.cell (j := 4) rfl
  have q0 := hbp.cell (j := 0) rfl; have q1 := hbp.cell (j := 1) rfl; have q2 := hbp.cell (j := 2) rfl
  have hl1 := hbk.lt; have hl2 := hbp.lt
  show Calls Tryd.prog 57 #[.agg #[.int .i64 f.Params, .int .i64 f.Regs, .bool f.Gen, .slice a3 n3 c3, .slice a4 n4 c4], .pointer (some ⟨g, 0, none⟩)] w _
  clear hl hm hb h hS hc b1 b2 b3 b4 b5 b6 hq3 hq4 hn3 hn4 hbk hbp hk hok
  go_enter Tryd.func57, Tryd.ntmps57
  go_upto_region 1 with fail
  rw [← hw1]
  clear hw1
  go_wp2_with (go_at_call 58; (with_reducible refine HFN.out.mono ?_); rintro e w2 ⟨rfl, hb2⟩; have HB2 := Lib.hid hb2; clear hb2)
  go_ret
  exact ⟨rfl, HB1.out.trans (HB2.out.mono HB1.out.size)⟩
set_option maxRecDepth 100000 in
set_option maxHeartbeats 1000000 in
theorem check_any {S : Nat → Prop} {w : World} {p : Api.Prog} (h : PgAt S w a0 a1 a2 nF nC nT p) (hS : ∀ b, S b → b < w.heap.size) (hA : Asc w) (hT2 : nT ≤ c2) :
    Calls Tryd.prog 25 #[pgV a0 a1 a2 nF c0 nC c1 nT c2] w fun e w' => e = .returned (.int .i64 (codeChk p)) ∧ RowKit.Below w.heap.size w w' := by
  obtain ⟨w1, hw1⟩ : ∃ w1, w1 = w.alloc (.cells #[.slice a0 nF c0, .slice a1 nC c1, .slice a2 nT c2] 52) := ⟨_, rfl⟩
  have hbk := blk_new w [.slice a0 nF c0, .slice a1 nC c1, .slice a2 nT c2] 52
  rw [← hw1] at hbk
  have HB1 : Hid (RowKit.Below w.heap.size w w1) := by show RowKit.Below _ _ _; rw [hw1]; exact below_al2 _
  have HBK := Lib.hid hbk
  have HCE : Hid (∀ W, RowKit.Below w1.heap.size w1 W → Blk W w.heap.size 52 [.slice a0 nF c0, .slice a1 nC c1, .slice a2 nT c2] ∧ PgAt S W a0 a1 a2 nF nC nT p ∧ (∀ b, S b → b < W.heap.size) ∧ RowKit.Below w.heap.size w W ∧ Asc W) := fun W hb => by
    have hbw : RowKit.Below w.heap.size w W := HB1.out.trans (hb.mono HB1.out.size)
    exact ⟨HBK.out.keep (hb.block _ HBK.out.lt), h.keep fun b hb' => hbw.block b (hS b hb'), fun b hb' => Nat.lt_of_lt_of_le (hS b hb') hbw.size, hbw, hA.keep hbw⟩
  have HC : Hid (codeChk p = if large p = true then 2
  else if tablesOk p = false then 3
  else if mainOk p = false then 3
  else if (p.Fns.any fun f => !funcOk p f) = true then 3
  else 0) := rfl
  obtain ⟨l1, l2, l3, l4, l5⟩ := HCE.out w1 (RowKit.Below.refl _ _)
  have HLA : Hid (Calls Tryd.prog 54 #[.agg #[.slice a0 nF c0, .slice a1 nC c1, .slice a2 nT c2]] w1 fun e w' => e = .returned (.bool (large p)) ∧ RowKit.Below w1.heap.size w1 w') := large_any l2 l3
  have p0 := l1.cell (j := 0) rfl; have p1 := l1.cell (j := 1) rfl; have p2 := l1.cell (j := 2) rfl
  have hl1 := l1.lt
  obtain ⟨lg, hlg⟩ : ∃ b, b = large p := ⟨_, rfl⟩
  rw [← hlg] at HLA HC
  have HLG := Lib.hid hlg
  have HP := Lib.hid h
  clear h hS hA l1 l2 l3 l4 l5 hbk hlg
  go_enter Tryd.func25, Tryd.ntmps25
  go_upto_region 1 with fail
  rw [← hw1]
  clear hw1
  cases lg with
  | true =>
    go_wp2_with (go_at_call 54; (with_reducible refine HLA.out.mono ?_); rintro e w2 ⟨rfl, hb2⟩; have HB2 := Lib.hid hb2; clear hb2)
    go_ret
    exact ⟨by rw [HC.out]; rfl, (HCE.out _ HB2.out).2.2.2.1⟩
  | false =>
    have hbd := fn_bounds HLG.out.symm
    have hnF : nF ≤ 60 := by rw [HP.out.lenF]; exact hbd.1
    have hnT : nT ≤ 200 := by rw [HP.out.lenT]; exact hbd.2.2.1
    clear hbd
    go_upto_region 3 with (go_at_call 54; (with_reducible refine HLA.out.mono ?_); rintro e w2 ⟨rfl, hb2⟩; have HB2 := Lib.hid hb2; clear hb2)
    obtain ⟨l1, l2, l3, l4, l5⟩ := HCE.out w2 HB2.out
    have HTA : Hid (Calls Tryd.prog 55 #[.agg #[.slice a0 nF c0, .slice a1 nC c1, .slice a2 nT c2]] w2 fun e w' => e = .returned (.bool (tablesOk p)) ∧ RowKit.Below w1.heap.size w1 w') := (tables_any l2 l3 l5 hT2 (by omega)).mono fun e w' ⟨he, hb⟩ => ⟨he, HB2.out.trans (hb.mono HB2.out.size)⟩
    have r0 := l1.cell (j := 0) rfl; have r1 := l1.cell (j := 1) rfl; have r2 := l1.cell (j := 2) rfl
    have hl2 := l1.lt
    obtain ⟨tb, htb⟩ : ∃ b, b = tablesOk p := ⟨_, rfl⟩
    rw [← htb] at HTA HC
    clear l1 l2 l3 l4 l5 p0 p1 p2 hl1 htb HLA
    cases tb with
    | false =>
      go_wp2_with (go_at_call 55; (with_reducible refine HTA.out.mono ?_); rintro e w3 ⟨rfl, hb3⟩; have HB3 := Lib.hid hb3; clear hb3)
      go_ret
      exact ⟨by rw [HC.out]; rfl, (HCE.out _ HB3.out).2.2.2.1⟩
    | true =>
      have HC : Hid (codeChk p = if mainOk p = false then 3 else if (p.Fns.any fun f => !funcOk p f) = true then 3 else 0) := by show _ = _; rw [HC.out]; rfl
      by_cases hz : nF = 0
      · have HC : Hid (codeChk p = 3) := by
          show _ = _
          have : p.Fns = [] := List.eq_nil_of_length_eq_zero (by rw [← HP.out.lenF]; exact hz)
          rw [HC.out]; unfold mainOk; rw [this]; rfl
        subst hz
        have HZ : Hid (∀ W, RowKit.Below w1.heap.size w1 W → W.cell? ⟨w.heap.size, 0, none⟩ = some (.slice a0 0 c0) ∧ w.heap.size < W.heap.size) := fun W hb => ⟨(HCE.out W hb).1.cell (j := 0) rfl, (HCE.out W hb).1.lt⟩
        go_wp2_with (go_at_call 55; (with_reducible refine HTA.out.mono ?_); rintro e w3 ⟨rfl, hb3⟩; have HB3 := Lib.hid hb3; obtain ⟨s0, s1⟩ := HZ.out w3 hb3; clear hb3)
        go_ret
        exact ⟨by rw [HC.out]; rfl, (HCE.out _ HB3.out).2.2.2.1⟩
      · obtain ⟨f0, hf0⟩ : ∃ f, p.Fns[0]? = some f := ⟨_, List.getElem?_eq_getElem (by rw [← HP.out.lenF]; omega)⟩
        obtain ⟨b, off, a3, c3, a4, c4, rfl, hSb, x0, x1, x2, x3, -⟩ := api_Fn_elem (HCE.out w1 (RowKit.Below.refl _ _)).2.1.fns hf0
        have hbb := (HCE.out w1 (RowKit.Below.refl _ _)).2.2.1 b hSb
        have hF0 : 0 < nF := by omega
        have e0 : off + 0 * 5 = off := by omega
        rw [e0] at x0 x1 x2 x3
        obtain ⟨n3, hn3⟩ : ∃ n, n = f0.Caught.length := ⟨_, rfl⟩
        obtain ⟨pp, hpp⟩ : ∃ n, n = f0.Params := ⟨_, rfl⟩
        obtain ⟨gg, hgg⟩ : ∃ n, n = f0.Gen := ⟨_, rfl⟩
        rw [← hn3] at x3
        rw [← hpp] at x0
        rw [← hgg] at x2
        have HMO : Hid (mainOk p = (decide (pp = 0) && (decide (n3 = 0) && !gg))) := by
          show _ = _
          unfold mainOk
          cases hF : p.Fns with
          | nil => rw [hF] at hf0; simp at hf0
          | cons f l =>
            rw [hF] at hf0
            simp at hf0
            subst hf0
            rw [hn3, hpp, hgg]
            simp
        have HZ : Hid (∀ W, RowKit.Below w1.heap.size w1 W → W.cell? ⟨w.heap.size, 0, none⟩ = some (.slice (some ⟨b, off, none⟩) nF c0) ∧ w.heap.size < W.heap.size ∧ W.cell? ⟨b, off, none⟩ = some (.int .i64 pp) ∧ W.cell? ⟨b, off + 2, none⟩ = some (.bool gg) ∧ W.cell? ⟨b, off + 3, none⟩ = some (.slice a3 n3 c3) ∧ b < W.heap.size) := fun W hb => by
          have hk := hb.block b hbb
          exact ⟨(HCE.out W hb).1.cell (j := 0) rfl, (HCE.out W hb).1.lt, (World.cell?_of_block (a := ⟨b, off, none⟩) hk).trans x0, (World.cell?_of_block (a := ⟨b, off + 2, none⟩) hk).trans x2, (World.cell?_of_block (a := ⟨b, off + 3, none⟩) hk).trans x3, Nat.lt_of_lt_of_le hbb hb.size⟩
        have hs3 : n3 ≤ 9223372036854775807 := by
          obtain ⟨_, _, _, _, _, _, _, _, _, _, _, _, _, _, _, h3, _⟩ := api_Fn_elem (HCE.out w1 (RowKit.Below.refl _ _)).2.1.fns hf0
          have := h3.2.2.small
          unfold maxLen at this
          omega
        have hz2 : ((nF : Int) == 0) = false := by simp; omega
        clear hf0 x0 x1 x2 x3 e0 hSb hn3 hpp hgg hz
        by_cases dp : pp = 0
        · subst dp
          by_cases d3 : n3 = 0
          · have d4 : decide (0 < n3) = false := decide_eq_false (by omega)
            have d5 : decide (0 < (n3 : Int)) = false := decide_eq_false (by omega)
            cases gg with
            | true =>
              have HC : Hid (codeChk p = 3) := by show _ = _; rw [HC.out, HMO.out]; simp
              clear d3
              go_wp2_with (go_at_call 55; (with_reducible refine HTA.out.mono ?_); rintro e w3 ⟨rfl, hb3⟩; have HB3 := Lib.hid hb3; obtain ⟨s0, s1, s2, s3, s4, s5⟩ := HZ.out w3 hb3; clear hb3)
              go_ret
              exact ⟨by rw [HC.out]; rfl, (HCE.out _ HB3.out).2.2.2.1⟩
            | false =>
              have HC : Hid (codeChk p = if (p.Fns.any fun f => !funcOk p f) = true then 3 else 0) := by show _ = _; rw [HC.out, HMO.out]; simp [d3]
              have HCF : Hid (∀ W, RowKit.Below w1.heap.size w1 W → Calls Tryd.prog 56 #[.slice (some ⟨b, off, none⟩) nF c0, .func (.func 57) #[] #[.pointer (some ⟨w.heap.size, 0, none⟩)]] W fun e w' => e = .returned (.bool (p.Fns.any fun f => !funcOk p f)) ∧ RowKit.Below w1.heap.size w1 w') := fun W hW => by
                obtain ⟨m1, m2, m3, m4, m5⟩ := HCE.out W hW
                have k := containsF_any (c := c0) (F := 57) (caps := #[.pointer (some ⟨w.heap.size, 0, none⟩)]) (p := fun f => !funcOk p f) mild_grow HP.out.lenF.symm m2.fns m3 (fun _ _ => by simp)
                  (fun y cs wx hy hc hg => by
                    obtain ⟨k1, k2, k3, k4, k5⟩ := HCE.out wx (hW.trans (hg.mono hW.size))
                    exact checkF_any HLG.out.symm hy k1 k2 k3 hc)
                exact k.mono fun e w' ⟨he, hg⟩ => ⟨he, hW.trans (hg.mono hW.size)⟩
              obtain ⟨an, han⟩ : ∃ b, b = (p.Fns.any fun f => !funcOk p f) := ⟨_, rfl⟩
              rw [← han] at HC HCF
              clear d3 han
              cases an
              all_goals
                go_wp2_with (first
                  | (go_at_call 55; (with_reducible refine HTA.out.mono ?_); rintro e w3 ⟨rfl, hb3⟩; have HB3 := Lib.hid hb3; obtain ⟨s0, s1, s2, s3, s4, s5⟩ := HZ.out w3 hb3; clear hb3)
                  | (go_at_call 56; (with_reducible refine (HCF.out _ HB3.out).mono ?_); rintro e w4 ⟨rfl, hb4⟩; have HB4 := Lib.hid hb4; clear hb4))
                go_ret
                exact ⟨by rw [HC.out]; rfl, (HCE.out _ HB4.out).2.2.2.1⟩
          · have d4 : decide (0 < n3) = true := decide_eq_true (by omega)
            have d5 : decide (0 < (n3 : Int)) = true := decide_eq_true (by omega)
            have HC : Hid (codeChk p = 3) := by show _ = _; rw [HC.out, HMO.out]; simp [d3]
            clear d3
            go_wp2_with (go_at_call 55; (with_reducible refine HTA.out.mono ?_); rintro e w3 ⟨rfl, hb3⟩; have HB3 := Lib.hid hb3; obtain ⟨s0, s1, s2, s3, s4, s5⟩ := HZ.out w3 hb3; clear hb3)
            go_ret
            exact ⟨by rw [HC.out]; rfl, (HCE.out _ HB3.out).2.2.2.1⟩
        · have d1 : (pp != 0) = true := by simpa using dp
          have HC : Hid (codeChk p = 3) := by show _ = _; rw [HC.out, HMO.out]; simp [dp]
          clear dp
          go_wp2_with (go_at_call 55; (with_reducible refine HTA.out.mono ?_); rintro e w3 ⟨rfl, hb3⟩; have HB3 := Lib.hid hb3; obtain ⟨s0, s1, s2, s3, s4, s5⟩ := HZ.out w3 hb3; clear hb3)
          go_ret
          exact ⟨by rw [HC.out]; rfl, (HCE.out _ HB3.out).2.2.2.1⟩
end
end Go.Proofs.YtjlnaiiajlahgaaDoor.cod
