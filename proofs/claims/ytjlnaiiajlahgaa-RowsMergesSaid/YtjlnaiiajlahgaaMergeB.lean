/- RowsMerges: Merge and the document's RowsMerge: walked; the law. -/
import Derived.Test.YtjlnaiiajlahgaaMergeA
set_option linter.unusedVariables false
set_option linter.unusedSimpArgs false
namespace Go.Proofs.Ytjlnaiiajlahgaa.merge
open Go.Bk Go.RowKit Go.Bk.Stab Go.Proofs.Ytjlnaiiajlahgaa.stab

abbrev FilS (K : Int) (l : List Api.Event) : List Api.Event := Fil (fun x : Api.Event => x.Step) K l
/-- One list out of two: rising, equals in order. -/
structure Mgd (l m ys : List Api.Event) : Prop where
  len : ys.length = l.length + m.length
  up : ys.Pairwise fun x y => x.Step ≤ y.Step
  fil : ∀ K, FilS K ys = FilS K (l ++ m)
theorem Mgd.one {l m ys zs : List Api.Event} (h : Mgd l m ys) (h2 : Mgd l m zs) : ys = zs := sorted_one (key := fun x : Api.Event => x.Step) h.up h2.up fun K => (h.fil K).trans (h2.fil K).symm
/-- What was merged as far as i and k. -/
structure MR (l m : List Api.Event) (i k : Nat) (out : List Api.Event) : Prop where
  len : out.length = i + k
  up : out.Pairwise fun x y => x.Step ≤ y.Step
  fil : ∀ K, FilS K out = FilS K (l.take i) ++ FilS K (m.take k)
  lowL : ∀ x ∈ out, ∀ y, l[i]? = some y → x.Step ≤ y.Step
  lowM : ∀ x ∈ out, ∀ y, m[k]? = some y → x.Step ≤ y.Step
  tie : ∀ j x y, j < k → m[j]? = some x → l[i]? = some y → x.Step < y.Step
theorem MR.start (l m : List Api.Event) : MR l m 0 0 [] := ⟨rfl, List.Pairwise.nil, fun K => by simp [FilS, Fil], fun x hx => by simp at hx, fun x hx => by simp at hx, fun j x y h => by omega⟩
theorem pair_end {l : List Api.Event} {y : Api.Event} (h : l.Pairwise fun x y => x.Step ≤ y.Step) (hy : ∀ x ∈ l, x.Step ≤ y.Step) : (l ++ [y]).Pairwise fun x y => x.Step ≤ y.Step := by
  rw [List.pairwise_append]
  exact ⟨h, by simp, fun x hx z hz => by simp at hz; subst hz; exact hy x hx⟩
theorem MR.left {l m out : List Api.Event} {i k : Nat} {y : Api.Event} (h : MR l m i k out) (hl : stdy l = true) (hy : l[i]? = some y) (hc : ∀ z, m[k]? = some z → y.Step ≤ z.Step) : MR l m (i + 1) k (out ++ [y]) := by
  refine ⟨by rw [List.length_append, h.len]; simp; omega, pair_end h.up fun x hx => h.lowL x hx y hy, fun K => ?_, fun x hx z hz => ?_, fun x hx z hz => ?_, fun j x z hj hx hz => ?_⟩
  · unfold FilS
    rw [fil_append, List.take_add_one, hy]
    show Fil _ K out ++ Fil _ K [y] = Fil _ K (l.take i ++ [y]) ++ _
    rw [fil_append]
    have h0 := h.fil K
    unfold FilS at h0
    rw [h0]
    by_cases e : y.Step = K
    · have : Fil (fun x : Api.Event => x.Step) K (m.take k) = [] := fil_none _ fun x hx e2 => by
        obtain ⟨j, hj⟩ := List.getElem?_of_mem hx
        have hjl := (List.getElem?_eq_some_iff.1 hj).1
        rw [List.length_take] at hjl
        rw [List.getElem?_take_of_lt (by omega)] at hj
        have := h.tie j x y (by omega) hj hy
        have e3 : x.Step = K := e2
        omega
      rw [this]; simp
    · have : Fil (fun x : Api.Event => x.Step) K [y] = [] := fil_none _ fun x hx e2 => by simp at hx; subst hx; exact e e2
      rw [this]; simp
  · have h1 : y.Step ≤ z.Step := stdy_adj.1 hl i y z hy hz
    rcases List.mem_append.1 hx with hx | hx
    · have := h.lowL x hx y hy; omega
    · simp at hx; subst hx; exact h1
  · rcases List.mem_append.1 hx with hx | hx
    · exact h.lowM x hx z hz
    · simp at hx; subst hx; exact hc z hz
  · have h1 : y.Step ≤ z.Step := stdy_adj.1 hl i y z hy hz
    have := h.tie j x y hj hx hy
    omega
theorem MR.right {l m out : List Api.Event} {i k : Nat} {z : Api.Event} (h : MR l m i k out) (hm : stdy m = true) (hz : m[k]? = some z) (hc : ∀ y, l[i]? = some y → z.Step < y.Step) : MR l m i (k + 1) (out ++ [z]) := by
  refine ⟨by rw [List.length_append, h.len]; simp; omega, pair_end h.up fun x hx => h.lowM x hx z hz, fun K => ?_, fun x hx y hy => ?_, fun x hx y hy => ?_, fun j x y hj hx hy => ?_⟩
  · unfold FilS
    rw [fil_append, List.take_add_one, hz]
    show Fil _ K out ++ Fil _ K [z] = _ ++ Fil _ K (m.take k ++ [z])
    rw [fil_append]
    have h0 := h.fil K
    unfold FilS at h0
    rw [h0, List.append_assoc]
  · rcases List.mem_append.1 hx with hx | hx
    · exact h.lowL x hx y hy
    · simp at hx; subst hx; have := hc y hy; omega
  · have h1 : z.Step ≤ y.Step := stdy_adj.1 hm k z y hz hy
    rcases List.mem_append.1 hx with hx | hx
    · have := h.lowM x hx z hz; omega
    · simp at hx; subst hx; exact h1
  · by_cases e : j = k
    · subst e
      rw [hz] at hx
      obtain rfl := Option.some.inj hx
      exact hc y hy
    · exact h.tie j x y (by omega) hx hy
theorem MR.done {l m out : List Api.Event} (h : MR l m l.length m.length out) : Mgd l m out :=
  ⟨h.len, h.up, fun K => by rw [h.fil K, List.take_length, List.take_length]; unfold FilS; rw [fil_append]⟩
set_option maxRecDepth 100000 in
set_option maxHeartbeats 2000000 in
theorem rmerge_any {S : Nat → Prop} {w : World} {a a2 : Option Addr} {c c2 n n2 : Nat} {l m : List Api.Event} (hn : l.length = n) (hn2 : m.length = n2) (h : Arr S w a l) (h2 : Arr S w a2 m) (hS : ∀ b, S b → b < w.heap.size) (hl : stdy l = true) (hm : stdy m = true) (hs : n + n2 ≤ 1000) :
    Calls Try.prog 20 #[.slice a n c, .slice a2 n2 c2] w fun e w' => ∃ v ys, e = .returned v ∧ Mgd l m ys ∧ Go.Bk.Own (fun _ => False) w' w.heap.size 81 v ys ∧ RowKit.Below w.heap.size w w' := by
  have HN : Hid (l.length = n ∧ m.length = n2) := ⟨hn, hn2⟩
  have HA : Hid (∀ w', RowKit.Below w.heap.size w w' → Arr S w' a l ∧ Arr S w' a2 m) := fun w' hb => ⟨h.keep (fun b hb' => hb.block b (hS b hb')), h2.keep (fun b hb' => hb.block b (hS b hb'))⟩
  have HSS : Hid (∀ b, S b → b < w.heap.size) := hS
  have HST : Hid (stdy l = true ∧ stdy m = true) := ⟨hl, hm⟩
  clear hn hn2 h h2 hS hl hm
  go_enter Try.func20, Try.ntmps20
  go_wp2_with fail
  go_loopw [5, 6, 7] (fun v5 v6 v7 w' => ∃ (i k : Nat) (out : List Api.Event), i ≤ n ∧ k ≤ n2 ∧ v6 = .int .i64 i ∧ v7 = .int .i64 k ∧ MR l m i k out ∧ Go.Bk.Own (fun _ => False) w' w.heap.size 81 v5 out ∧ RowKit.Below w.heap.size w w') (fun _ i k _ => n + n2 - (intOf i).toNat - (intOf k).toNat)
  case atStart => exact ⟨0, 0, [], Nat.zero_le _, Nat.zero_le _, rfl, rfl, MR.start _ _, Own.nil _ _ _ _, RowKit.Below.refl _ _⟩
  case round =>
  obtain ⟨i, k, out, hi, hk, rfl, rfl, hmr, hown, hb⟩ := hrel
  have HM := Lib.hid hmr; have HO := Lib.hid hown; have HB := Lib.hid hb
  have hol := hmr.len
  have HOL := Lib.hid hol
  have hbs := hb.size
  by_cases hin : i < n
  · obtain ⟨y, hy⟩ : ∃ y, l[i]? = some y := ⟨_, List.getElem?_eq_getElem (by rw [HN.out.1]; exact hin)⟩
    obtain ⟨b1, o1, rfl, hs1, p0, p1, p2, p3, p4, p5, p6, p7, p8, p9, p10, p11, i0, i1, i2, i3, i4, i5, i6, i7, i8, i9, i10, i11⟩ := api_Event_elem (HA.out _ hb).1 hy
    have HYC : Hid (∀ W, Rep.cells (fun _ => False) W [.int .i64 y.Kind, .int .i64 y.Step, .int .i64 y.Thread, .int .i64 y.Fn, .int .i64 y.At, .int .i64 y.Line, .int .i64 y.A, .int .i64 y.B, .int .i64 y.Val.Kind, .int .i64 y.Val.N, .int .i64 y.Old.Kind, .int .i64 y.Old.N] y) := fun W => api_Event_cells_mk i0 i1 i2 i3 i4 i5 i6 i7 i8 i9 i10 i11
    have hlt1 : b1 < wr.heap.size := Nat.lt_of_lt_of_le (HSS.out _ hs1) hb.size
    have HY := Lib.hid hy
    clear i0 i1 i2 i3 i4 i5 i6 i7 i8 i9 i10 i11
    by_cases hkn : k < n2
    · obtain ⟨z, hz⟩ : ∃ z, m[k]? = some z := ⟨_, List.getElem?_eq_getElem (by rw [HN.out.2]; exact hkn)⟩
      obtain ⟨b2, o2, rfl, hs2, q0, q1, q2, q3, q4, q5, q6, q7, q8, q9, q10, q11, j0, j1, j2, j3, j4, j5, j6, j7, j8, j9, j10, j11⟩ := api_Event_elem (HA.out _ hb).2 hz
      have HZC : Hid (∀ W, Rep.cells (fun _ => False) W [.int .i64 z.Kind, .int .i64 z.Step, .int .i64 z.Thread, .int .i64 z.Fn, .int .i64 z.At, .int .i64 z.Line, .int .i64 z.A, .int .i64 z.B, .int .i64 z.Val.Kind, .int .i64 z.Val.N, .int .i64 z.Old.Kind, .int .i64 z.Old.N] z) := fun W => api_Event_cells_mk j0 j1 j2 j3 j4 j5 j6 j7 j8 j9 j10 j11
      have hlt2 : b2 < wr.heap.size := Nat.lt_of_lt_of_le (HSS.out _ hs2) hb.size
      have HZ := Lib.hid hz
      clear j0 j1 j2 j3 j4 j5 j6 j7 j8 j9 j10 j11
      have dk : ((k : Int) == (n2 : Int)) = false := by simp; omega
      have dk2 : (k == n2) = false := by simp; omega
      by_cases hc : y.Step ≤ z.Step
      · have hd : decide (y.Step ≤ z.Step) = true := decide_eq_true hc
        have HL := Lib.hid (hmr.left HST.out.1 hy (fun z' hz' => by rw [hz] at hz'; obtain rfl := Option.some.inj hz'; exact hc))
        clear hy hz hmr hown hb hol hc
        go_wp2_with fail
        first | (refine wp_region_quiet_lit (by kernel_rfl) (by kernel_rfl) ?_; (repeat (go_big_quiet_step (fail))); refine wpQuiet_nil ?_; intro _ hw'; obtain ⟨nq, hw''⟩ := hw'; subst hw'')
        have HOq : Hid (Go.Bk.Own (fun _ => False) (wr.drewN nq) w.heap.size 81 u5 out) := HO.out
        have hbsq : w.heap.size ≤ (wr.drewN nq).heap.size := hbs
        go_wp2_with ((at_builtin; with_reducible refine Try.wp_app40 rfl rfl rfl rfl rfl (by first | rfl | simp) (HOq.out) (HYC.out _) (fun _ h => h.elim) (by (rw [HOL.out]; omega)) (by exact hbsq) fun v' w' hown' hg' => ?_); have HO' := Lib.hid hown'; have HG := Lib.hid hg'; clear hown' hg')
        go_roundw
        case rel => exact ⟨i + 1, k, _, hin, hk, by go_num, rfl, HL.out, HO'.out, (Go.Bk.Below.drewN HB.out nq).grown HG.out (by exact hbs) (fun r hr => (HO.out.lt r hr).1)⟩
        case measure => simp [intOf]; omega
      · have hd : decide (y.Step ≤ z.Step) = false := decide_eq_false hc
        have HL := Lib.hid (hmr.right HST.out.2 hz (fun y' hy' => by rw [hy] at hy'; obtain rfl := Option.some.inj hy'; omega))
        clear hy hz hmr hown hb hol hc
        go_wp2_with fail
        first | (refine wp_region_quiet_lit (by kernel_rfl) (by kernel_rfl) ?_; (repeat (go_big_quiet_step (fail))); refine wpQuiet_nil ?_; intro _ hw'; obtain ⟨nq, hw''⟩ := hw'; subst hw'')
        have HOq : Hid (Go.Bk.Own (fun _ => False) (wr.drewN nq) w.heap.size 81 u5 out) := HO.out
        have hbsq : w.heap.size ≤ (wr.drewN nq).heap.size := hbs
        go_wp2_with ((at_builtin; with_reducible refine Try.wp_app40 rfl rfl rfl rfl rfl (by first | rfl | simp) (HOq.out) (HZC.out _) (fun _ h => h.elim) (by (rw [HOL.out]; omega)) (by exact hbsq) fun v' w' hown' hg' => ?_); have HO' := Lib.hid hown'; have HG := Lib.hid hg'; clear hown' hg')
        go_roundw
        case rel => exact ⟨i, k + 1, _, hi, hkn, rfl, by go_num, HL.out, HO'.out, (Go.Bk.Below.drewN HB.out nq).grown HG.out (by exact hbs) (fun r hr => (HO.out.lt r hr).1)⟩
        case measure => simp [intOf]; omega
    · have hkn2 : k = n2 := by omega
      have dk : ((k : Int) == (n2 : Int)) = true := by simp; omega
      have dk2 : (k == n2) = true := by simp; omega
      have HL := Lib.hid (hmr.left HST.out.1 hy (fun z' hz' => by have := (List.getElem?_eq_some_iff.1 hz').1; have := HN.out.2; omega))
      have HKN := Lib.hid hkn2
      clear hy hmr hown hb hol hkn2
      go_wp2_with fail
      first | (refine wp_region_quiet_lit (by kernel_rfl) (by kernel_rfl) ?_; (repeat (go_big_quiet_step (fail))); refine wpQuiet_nil ?_; intro _ hw'; obtain ⟨nq, hw''⟩ := hw'; subst hw'')
      have HOq : Hid (Go.Bk.Own (fun _ => False) (wr.drewN nq) w.heap.size 81 u5 out) := HO.out
      have hbsq : w.heap.size ≤ (wr.drewN nq).heap.size := hbs
      go_wp2_with ((at_builtin; with_reducible refine Try.wp_app40 rfl rfl rfl rfl rfl (by first | rfl | simp) (HOq.out) (HYC.out _) (fun _ h => h.elim) (by (rw [HOL.out]; omega)) (by exact hbsq) fun v' w' hown' hg' => ?_); have HO' := Lib.hid hown'; have HG := Lib.hid hg'; clear hown' hg')
      go_roundw
      case rel => exact ⟨i + 1, k, _, hin, hk, by go_num, rfl, HL.out, HO'.out, (Go.Bk.Below.drewN HB.out nq).grown HG.out (by exact hbs) (fun r hr => (HO.out.lt r hr).1)⟩
      case measure => simp [intOf]; omega
  · by_cases hkn : k < n2
    · obtain ⟨z, hz⟩ : ∃ z, m[k]? = some z := ⟨_, List.getElem?_eq_getElem (by rw [HN.out.2]; exact hkn)⟩
      obtain ⟨b2, o2, rfl, hs2, q0, q1, q2, q3, q4, q5, q6, q7, q8, q9, q10, q11, j0, j1, j2, j3, j4, j5, j6, j7, j8, j9, j10, j11⟩ := api_Event_elem (HA.out _ hb).2 hz
      have HZC : Hid (∀ W, Rep.cells (fun _ => False) W [.int .i64 z.Kind, .int .i64 z.Step, .int .i64 z.Thread, .int .i64 z.Fn, .int .i64 z.At, .int .i64 z.Line, .int .i64 z.A, .int .i64 z.B, .int .i64 z.Val.Kind, .int .i64 z.Val.N, .int .i64 z.Old.Kind, .int .i64 z.Old.N] z) := fun W => api_Event_cells_mk j0 j1 j2 j3 j4 j5 j6 j7 j8 j9 j10 j11
      have hlt2 : b2 < wr.heap.size := Nat.lt_of_lt_of_le (HSS.out _ hs2) hb.size
      clear j0 j1 j2 j3 j4 j5 j6 j7 j8 j9 j10 j11
      have dk : ((k : Int) == (n2 : Int)) = false := by simp; omega
      have dk2 : (k == n2) = false := by simp; omega
      have HL := Lib.hid (hmr.right HST.out.2 hz (fun y' hy' => by have := (List.getElem?_eq_some_iff.1 hy').1; have := HN.out.1; omega))
      clear hz hmr hown hb hol
      go_wp2_with fail
      first | (refine wp_region_quiet_lit (by kernel_rfl) (by kernel_rfl) ?_; (repeat (go_big_quiet_step (fail))); refine wpQuiet_nil ?_; intro _ hw'; obtain ⟨nq, hw''⟩ := hw'; subst hw'')
      have HOq : Hid (Go.Bk.Own (fun _ => False) (wr.drewN nq) w.heap.size 81 u5 out) := HO.out
      have hbsq : w.heap.size ≤ (wr.drewN nq).heap.size := hbs
      go_wp2_with ((at_builtin; with_reducible refine Try.wp_app40 rfl rfl rfl rfl rfl (by first | rfl | simp) (HOq.out) (HZC.out _) (fun _ h => h.elim) (by (rw [HOL.out]; omega)) (by exact hbsq) fun v' w' hown' hg' => ?_); have HO' := Lib.hid hown'; have HG := Lib.hid hg'; clear hown' hg')
      go_roundw
      case rel => exact ⟨i, k + 1, _, hi, hkn, rfl, by go_num, HL.out, HO'.out, (Go.Bk.Below.drewN HB.out nq).grown HG.out (by exact hbs) (fun r hr => (HO.out.lt r hr).1)⟩
      case measure => simp [intOf]; omega
    · have HD : Hid (Mgd l m out) := by
        have e1 : i = l.length := by have := HN.out.1; omega
        have e2 : k = m.length := by have := HN.out.2; omega
        subst e1 e2
        exact hmr.done
      clear hmr hown hb hol
      go_wp2_with fail
      go_ret
      exact ⟨_, out, rfl, HD.out, HO.out, HB.out⟩
end Go.Proofs.Ytjlnaiiajlahgaa.merge
