/- RowsMerges: IsSortedFunc, the document's Steady, RowsMerge, SameEvents at what is one: walked. -/
import Derived.Test.YtjlnaiiajlahgaaStabG
import Derived.Test.YtjlnaiiajlahgaaConcatE
import Derived.Test.YtjlnaiiajlahgaaFuncsG
import Derived.BigQuiet
set_option linter.unusedVariables false
set_option linter.unusedSimpArgs false
namespace Go.Proofs.Ytjlnaiiajlahgaa.merge
open Go.Bk Go.RowKit Go.Bk.Stab Go.Proofs.Ytjlnaiiajlahgaa.stab

def stdy (l : List Api.Event) : Bool := decide (l.Pairwise fun x y => x.Step ≤ y.Step)
theorem stdy_adj {l : List Api.Event} : stdy l = true ↔ ∀ i x y, l[i]? = some x → l[i + 1]? = some y → x.Step ≤ y.Step := by
  unfold stdy
  rw [decide_eq_true_iff, List.pairwise_iff_getElem]
  constructor
  · intro h i x y hx hy
    obtain ⟨h1, rfl⟩ := List.getElem?_eq_some_iff.1 hx
    obtain ⟨h2, rfl⟩ := List.getElem?_eq_some_iff.1 hy
    exact h i (i + 1) h1 h2 (by omega)
  · intro h i j hi hj hij
    have : ∀ d (h1 : i + d < l.length), l[i].Step ≤ (l[i + d]'h1).Step := by
      intro d
      induction d with
      | zero => intro _; exact Int.le_refl _
      | succ d ih =>
        intro h1
        have h2 := ih (by omega)
        have h3 := h (i + d) _ _ (List.getElem?_eq_getElem (by omega)) (List.getElem?_eq_getElem (by omega : i + d + 1 < l.length))
        exact Int.le_trans h2 h3
    have := this (j - i) (by omega)
    simpa only [show i + (j - i) = j by omega] using this
theorem stdy_false {l : List Api.Event} {i : Nat} {x y : Api.Event} (hx : l[i]? = some x) (hy : l[i + 1]? = some y) (h : y.Step < x.Step) : stdy l = false := by
  rw [Bool.eq_false_iff]
  intro h2
  have := stdy_adj.1 h2 i x y hx hy
  omega
theorem byStep_below (w : World) (x y : Api.Event) : Calls Try.prog 45 #[.agg #[.int .i64 x.Kind, .int .i64 x.Step, .int .i64 x.Thread, .int .i64 x.Fn, .int .i64 x.At, .int .i64 x.Line, .int .i64 x.A, .int .i64 x.B, .int .i64 x.Val.Kind, .int .i64 x.Val.N, .int .i64 x.Old.Kind, .int .i64 x.Old.N], .agg #[.int .i64 y.Kind, .int .i64 y.Step, .int .i64 y.Thread, .int .i64 y.Fn, .int .i64 y.At, .int .i64 y.Line, .int .i64 y.A, .int .i64 y.B, .int .i64 y.Val.Kind, .int .i64 y.Val.N, .int .i64 y.Old.Kind, .int .i64 y.Old.N]] w fun e w' => e = .returned (.int .i64 (cmpS x y)) ∧ RowKit.Below w.heap.size w w' :=
  (byStep_any w x y).mono fun e w' ⟨he, q, os, hw⟩ => ⟨he, by rw [hw]; exact ⟨rfl, rfl, rfl, by simp, fun b hb => by rw [Sort.heap_grow_old _ _ (by simpa using hb)]; rfl⟩⟩
set_option maxRecDepth 100000 in
set_option maxHeartbeats 2000000 in
theorem isSorted_any {S : Nat → Prop} {w : World} {a : Option Addr} {c n : Nat} {l : List Api.Event} (hn : l.length = n) (h : Arr S w a l) (hS : ∀ b, S b → b < w.heap.size) :
    Calls Try.prog 44 #[.slice a n c, .func (.func 45) #[] #[]] w fun e w' => e = .returned (.bool (stdy l)) ∧ RowKit.Below w.heap.size w w' := by
  have hsm := h.small
  rw [hn] at hsm
  unfold maxLen at hsm
  have HN := Lib.hid hn
  have HA : Hid (∀ w', RowKit.Below w.heap.size w w' → Arr S w' a l) := fun w' hb => h.keep (fun b hb' => hb.block b (hS b hb'))
  have HSS : Hid (∀ b, S b → b < w.heap.size) := hS
  clear hn h hS
  go_enter Try.func44, Try.ntmps44
  by_cases h0 : n = 0
  · subst h0
    have hT : Hid (stdy l = true) := stdy_adj.2 fun i x y hx hy => by have := (List.getElem?_eq_some_iff.1 hx).1; have := HN.out; omega
    go_wp2_with fail
    refine wp_loop_once ?_
    go_wp2_with fail
    go_ret
    exact ⟨by rw [hT.out]; rfl, RowKit.Below.refl _ _⟩
  obtain ⟨np, rfl⟩ : ∃ np, n = np + 1 := ⟨n - 1, by omega⟩
  have hwp : IntKind.i64.wrap (np : Int) = (np : Int) := by rw [IntKind.wrap_i64]; omega
  go_wp2_with fail
  go_loopw [5] (fun v w' => ∃ i : Nat, i ≤ np ∧ v = .int .i64 i ∧ RowKit.Below w.heap.size w w' ∧ ∀ j x y, i ≤ j → l[j]? = some x → l[j + 1]? = some y → x.Step ≤ y.Step) (fun i _ => (intOf i).toNat)
  case atStart => exact ⟨np, Nat.le_refl _, by first | rfl | go_num, RowKit.Below.refl _ _, fun j x y h1 h2 h3 => by have := (List.getElem?_eq_some_iff.1 h3).1; have := HN.out; omega⟩
  case round =>
  obtain ⟨i, hi, rfl, hb, hok⟩ := hrel
  have HB := Lib.hid hb; have HOK := Lib.hid hok
  by_cases hi0 : i = 0
  · subst hi0
    have hT : Hid (stdy l = true) := stdy_adj.2 fun i x y hx hy => hok i x y (Nat.zero_le _) hx hy
    clear hb hok
    go_wp2_with fail
    go_ret
    exact ⟨by rw [hT.out]; rfl, HB.out⟩
  obtain ⟨ip, rfl⟩ : ∃ ip, i = ip + 1 := ⟨i - 1, by omega⟩
  have hip : IntKind.i64.wrap (ip : Int) = (ip : Int) := by rw [IntKind.wrap_i64]; omega
  have hp0 : (0 : Int) < (ip : Int) + 1 := by omega
  have hp1 : (0 : Int) ≤ (ip : Int) + 1 := by omega
  have e0 : ((ip : Int) + 1).toNat = ip + 1 := by omega
  have jz : (ip : Int) + 1 < (np : Int) + 1 := by omega
  have jz1 : (ip : Int) < (np : Int) + 1 := by omega
  obtain ⟨y, hy⟩ : ∃ y, l[ip + 1]? = some y := ⟨_, List.getElem?_eq_getElem (by have := HN.out; omega)⟩
  obtain ⟨x, hx⟩ : ∃ x, l[ip]? = some x := ⟨_, List.getElem?_eq_getElem (by have := HN.out; omega)⟩
  have hcc := cmpS_lt y x
  have HBS : Hid (∀ w, Calls Try.prog 45 #[.agg #[.int .i64 y.Kind, .int .i64 y.Step, .int .i64 y.Thread, .int .i64 y.Fn, .int .i64 y.At, .int .i64 y.Line, .int .i64 y.A, .int .i64 y.B, .int .i64 y.Val.Kind, .int .i64 y.Val.N, .int .i64 y.Old.Kind, .int .i64 y.Old.N], .agg #[.int .i64 x.Kind, .int .i64 x.Step, .int .i64 x.Thread, .int .i64 x.Fn, .int .i64 x.At, .int .i64 x.Line, .int .i64 x.A, .int .i64 x.B, .int .i64 x.Val.Kind, .int .i64 x.Val.N, .int .i64 x.Old.Kind, .int .i64 x.Old.N]] w fun e w' => e = .returned (.int .i64 (cmpS y x)) ∧ RowKit.Below w.heap.size w w') := fun w => byStep_below w y x
  obtain ⟨cv, hcv⟩ : ∃ cv, cv = cmpS y x := ⟨_, rfl⟩
  rw [← hcv] at hcc HBS
  obtain ⟨b1, o1, rfl, hs1, p0, p1, p2, p3, p4, p5, p6, p7, p8, p9, p10, p11, -⟩ := api_Event_elem (HA.out _ hb) hx
  obtain ⟨b2, o2, he2, hs2, q0, q1, q2, q3, q4, q5, q6, q7, q8, q9, q10, q11, -⟩ := api_Event_elem (HA.out _ hb) hy
  injection he2 with he2
  injection he2 with he3 he4
  subst he3 he4
  have hlt1 : b1 < wr.heap.size := Nat.lt_of_lt_of_le (HSS.out _ hs1) hb.size
  have HX := Lib.hid hx; have HY := Lib.hid hy
  clear hcv hb hok hx hy
  by_cases hc : cv < 0
  · have hd : decide (cv < 0) = true := decide_eq_true hc
    have hT : Hid (stdy l = false) := stdy_false HX.out HY.out (hcc.1 hc)
    clear hcc
    go_wp2_with fail
    first | (refine wp_region_drift_lit (by kernel_rfl) (by kernel_rfl) (fun hdr => ?_); (repeat (go_big_quiet_step ((go_at_call 45; exact drift_of (HBS.out _))))); refine wpQuiet_nil ?_; intro wq hw'; obtain ⟨⟨wd, hbd⟩, hw''⟩ := hw'; dsimp only at hw''; subst wq; clear hdr)
    go_wp2_with fail
    go_ret
    exact ⟨by rw [hT.out]; rfl, HB.out.trans (hbd.mono HB.out.size)⟩
  · have hd : decide (cv < 0) = false := decide_eq_false hc
    have hT : Hid (x.Step ≤ y.Step) := by show _ ≤ _; have := fun h => hc (hcc.2 h); omega
    clear hcc
    go_wp2_with fail
    first | (refine wp_region_drift_lit (by kernel_rfl) (by kernel_rfl) (fun hdr => ?_); (repeat (go_big_quiet_step ((go_at_call 45; exact drift_of (HBS.out _))))); refine wpQuiet_nil ?_; intro wq hw'; obtain ⟨⟨wd, hbd⟩, hw''⟩ := hw'; dsimp only at hw''; subst wq; clear hdr)
    go_wp2_with fail
    go_roundw
    case rel => exact ⟨ip, by omega, by first | rfl | go_num | (congr 1; omega), HB.out.trans (hbd.mono HB.out.size), fun j u v h1 h2 h3 => by
      by_cases e : j = ip
      · subst e
        have e1 := HX.out.symm.trans h2
        have e2 := HY.out.symm.trans h3
        injection e1 with e1
        injection e2 with e2
        subst e1 e2
        exact hT.out
      · exact HOK.out j u v (by omega) h2 h3⟩
    case measure => simp [intOf]
set_option maxRecDepth 100000 in
set_option maxHeartbeats 1000000 in
theorem steady_any {S : Nat → Prop} {w : World} {a : Option Addr} {c n : Nat} {l : List Api.Event} (hn : l.length = n) (h : Arr S w a l) :
    Calls Try.prog 19 #[.slice a n c] w fun e w' => e = .returned (.bool (stdy l)) ∧ Quiet w w' := by
  have hsm := h.small
  rw [hn] at hsm
  unfold maxLen at hsm
  have HN := Lib.hid hn
  have HA : Hid (∀ w', Quiet w w' → Arr S w' a l) := fun w' hq => h.keep (fun b _ => hq.heap b)
  clear hn h
  go_enter Try.func19, Try.ntmps19
  go_wp2_with fail
  go_loopw [3] (fun v w' => ∃ i : Nat, 1 ≤ i ∧ (i ≤ n ∨ i = 1) ∧ v = .int .i64 i ∧ Quiet w w' ∧ ∀ j x y, j + 1 < i → l[j]? = some x → l[j + 1]? = some y → x.Step ≤ y.Step) (fun i _ => n - (intOf i).toNat)
  case atStart => exact ⟨1, Nat.le_refl _, .inr rfl, rfl, Quiet.refl _, fun j x y h1 => by omega⟩
  case round =>
  obtain ⟨i, hi1, hi, rfl, hq, hok⟩ := hrel
  have HQ := Lib.hid hq; have HOK := Lib.hid hok
  by_cases hin : i < n
  case neg =>
    have hT : Hid (stdy l = true) := stdy_adj.2 fun j x y hx hy => hok j x y (by have := (List.getElem?_eq_some_iff.1 hy).1; have := HN.out; omega) hx hy
    clear hq hok
    go_wp2_with fail
    go_ret
    exact ⟨by rw [hT.out]; rfl, HQ.out⟩
  case pos =>
  obtain ⟨ip, rfl⟩ : ∃ ip, i = ip + 1 := ⟨i - 1, by omega⟩
  have hip : IntKind.i64.wrap (ip : Int) = (ip : Int) := by rw [IntKind.wrap_i64]; omega
  have hp1 : (0 : Int) ≤ (ip : Int) + 1 := by omega
  have e0 : ((ip : Int) + 1).toNat = ip + 1 := by omega
  have jz : (ip : Int) + 1 < (n : Int) := by omega
  have jz1 : (ip : Int) < (n : Int) := by omega
  obtain ⟨y, hy⟩ : ∃ y, l[ip + 1]? = some y := ⟨_, List.getElem?_eq_getElem (by have := HN.out; omega)⟩
  obtain ⟨x, hx⟩ : ∃ x, l[ip]? = some x := ⟨_, List.getElem?_eq_getElem (by have := HN.out; omega)⟩
  obtain ⟨b1, o1, rfl, -, -, p1, -⟩ := api_Event_elem (HA.out _ hq) hx
  obtain ⟨b2, o2, he2, -, -, q1, -⟩ := api_Event_elem (HA.out _ hq) hy
  injection he2 with he2
  injection he2 with he3 he4
  subst he3 he4
  have HX := Lib.hid hx; have HY := Lib.hid hy
  clear hq hok hx hy
  by_cases hc : y.Step < x.Step
  · have hd : decide (y.Step < x.Step) = true := decide_eq_true hc
    have hT : Hid (stdy l = false) := stdy_false HX.out HY.out hc
    clear hc
    go_wp2_with fail
    first | (refine wp_region_quiet_lit (by kernel_rfl) (by kernel_rfl) ?_; (repeat (go_big_quiet_step (fail))); refine wpQuiet_nil ?_; intro _ hw'; obtain ⟨nq, hw''⟩ := hw'; subst hw'')
    go_wp2_with fail
    go_ret
    exact ⟨by rw [hT.out]; rfl, HQ.out.more _⟩
  · have hd : decide (y.Step < x.Step) = false := decide_eq_false hc
    have hT : Hid (x.Step ≤ y.Step) := by show _ ≤ _; omega
    clear hc
    go_wp2_with fail
    first | (refine wp_region_quiet_lit (by kernel_rfl) (by kernel_rfl) ?_; (repeat (go_big_quiet_step (fail))); refine wpQuiet_nil ?_; intro _ hw'; obtain ⟨nq, hw''⟩ := hw'; subst hw'')
    go_wp2_with fail
    go_roundw
    case rel => exact ⟨ip + 2, by omega, by omega, by go_num, HQ.out.more _, fun j u v h1 h2 h3 => by
      by_cases e : j = ip
      · subst e
        have e1 := HX.out.symm.trans h2
        have e2 := HY.out.symm.trans h3
        injection e1 with e1
        injection e2 with e2
        subst e1 e2
        exact hT.out
      · exact HOK.out j u v (by omega) h2 h3⟩
    case measure => simp [intOf]; omega
set_option maxRecDepth 100000 in
set_option maxHeartbeats 2000000 in
theorem sameE_true {S1 S2 : Nat → Prop} {w : World} {a1 a2 : Option Addr} {c1 c2 n : Nat} {xs : List Api.Event} (hn : xs.length = n) (h1 : Arr S1 w a1 xs) (h2 : Arr S2 w a2 xs) :
    Calls Try.prog 21 #[.slice a1 n c1, .slice a2 n c2] w fun e w' => e = .returned (.bool true) ∧ Quiet w w' := by
  have hm1 := h1.small
  rw [hn] at hm1
  unfold maxLen at hm1
  have H1 := Lib.hid hn
  clear hn
  have hb : ((n : Int) != (n : Int)) = false := by simp
  have HA1 : Hid (∀ w', Quiet w w' → Arr S1 w' a1 xs ∧ Arr S2 w' a2 xs) := fun w' hq => ⟨h1.keep (fun b _ => hq.heap b), h2.keep (fun b _ => hq.heap b)⟩
  clear h1 h2
  go_enter Try.func21, Try.ntmps21
  go_wp2_with fail
  go_loopw [5] (fun v w' => ∃ k : Nat, k ≤ n ∧ v = .int .i64 k ∧ Quiet w w') (fun i _ => n - (intOf i).toNat)
  case atStart => exact ⟨0, Nat.zero_le _, rfl, Quiet.refl _⟩
  case round =>
  obtain ⟨k, hk, rfl, hq⟩ := hrel
  have HQ := Lib.hid hq
  by_cases hkn : k < n
  case neg =>
    clear hq
    go_wp2_with fail
    go_ret
    exact ⟨rfl, HQ.out⟩
  case pos =>
  obtain ⟨k1, k2⟩ := HA1.out _ hq
  obtain ⟨x, hx⟩ : ∃ x, xs[k]? = some x := ⟨_, List.getElem?_eq_getElem (by rw [H1.out]; exact hkn)⟩
  obtain ⟨b1, o1, rfl, -, p0, p1, p2, p3, p4, p5, p6, p7, p8, p9, p10, p11, -⟩ := api_Event_elem k1 hx
  obtain ⟨b2, o2, rfl, -, q0, q1, q2, q3, q4, q5, q6, q7, q8, q9, q10, q11, -⟩ := api_Event_elem k2 hx
  clear hx k1 k2 hq
  go_wp2_with fail
  go_quiet (fail)
  go_wp2_with fail
  go_roundw
  case rel => exact ⟨k + 1, by omega, by go_num, HQ.out.more _⟩
  case measure => simp [intOf]; omega
end Go.Proofs.Ytjlnaiiajlahgaa.merge
