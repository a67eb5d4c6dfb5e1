/- The law ThinTells, walked: the two answers are one. (Printed by tools/gen_thinlaw.py.) -/
import Derived.Test.YtffebdngmbbcoaaThinC
set_option linter.unusedVariables false
set_option linter.unusedSimpArgs false
namespace Go.Proofs.Ytffebdngmbbcoaa.thin
open Go.Bk Go.RowKit Go.Bk.srt

theorem quiet_drew {w w' : World} (h : Quiet w w') (n : Nat) : Quiet w (w'.drewN n) := h.trans ⟨n, rfl⟩
theorem own_quietL {w w' : World} {B : Nat} {e : TypeId} {v : Value} {xs : List Int} (h : Own (fun _ => False) w B e v xs) (hq : Quiet w w') : Own (fun _ => False) w' B e v xs := h.below (hq.below _) (fun _ h => h.elim)
theorem own_laterL {w w' : World} {B : Nat} {e : TypeId} {v : Value} {xs : List Int} (h : Own (fun _ => False) w B e v xs) (hb : Below w.heap.size w w') : Own (fun _ => False) w' B e v xs := h.below hb (fun _ h => h.elim)
theorem same_own {w : World} {B1 B2 : Nat} {e1 e2 : TypeId} {v1 v2 : Value} {xs : List Int} (h1 : Own (fun _ => False) w B1 e1 v1 xs) (h2 : Own (fun _ => False) w B2 e2 v2 xs) :
    Calls Try.prog 19 #[v1, v2] w fun e w' => e = .returned (.bool true) ∧ Quiet w w' := by
  obtain ⟨a1, c1, rfl, -, -, k1⟩ := h1.arr
  obtain ⟨a2, c2, rfl, -, -, k2⟩ := h2.arr
  exact same_ints_refl k1 k2
theorem same_arr_own {S : Nat → Prop} {w : World} {B m c : Nat} {a : Option Addr} {e : TypeId} {v : Value} {xs ys : List Int} (hn : xs.length = m) (h1 : Arr S w a xs) (h2 : Own (fun _ => False) w B e v ys) :
    Calls Try.prog 19 #[.slice a m c, v] w fun e w' => e = .returned (.bool (decide (xs = ys))) ∧ Quiet w w' := by
  subst hn
  obtain ⟨a2, c2, rfl, -, -, k2⟩ := h2.arr
  exact same_ints_any h1 k2
def tlRel (wl : World) (l : List Int) (m : Nat) (t : Int) (v16 v20 v22 v23 : Value) (w' : World) : Prop :=
  ∃ k : Nat, k ≤ m ∧ v23 = .int .i64 k ∧ ((okTo l k ∧ v16 = .int .i64 0 ∧ v20 = .int .i64 ((fromTo l t k).getD 0) ∧ v22 = .bool (fromTo l t k).isSome) ∨ (¬ okTo l m ∧ v16 = .int .i64 3 ∧ ∃ f b, v20 = .int .i64 f ∧ v22 = .bool b)) ∧ Quiet wl w'
def lessTo (l : List Int) (n k : Nat) : List Int := (l.take k).filter fun x => !isKept x.toNat n
theorem lessTo_succ {l : List Int} {n k : Nat} {x : Int} (hx : l[k]? = some x) : lessTo l n (k + 1) = lessTo l n k ++ if isKept x.toNat n then [] else [x] := by
  unfold lessTo
  rw [List.take_add_one, hx, List.filter_append]
  congr 1
  by_cases h : isKept x.toNat n <;> simp [h]
theorem lessTo_len (l : List Int) (n k : Nat) : (lessTo l n k).length ≤ l.length := Nat.le_trans (List.length_filter_le _ _) (by simp; omega)
theorem less_gone {l : List Int} {n p : Nat} (hl : l = keptL p) (hp : p ≤ n) : lessTo l n l.length = l.filter (fun x => !decide (x ∈ keptL n)) := by
  unfold lessTo
  rw [List.take_of_length_le (Nat.le_refl _)]
  apply List.filter_congr
  intro x hx
  rw [hl] at hx
  obtain ⟨k, rfl, hk, -⟩ := mem_keptL.1 hx
  congr 1
  rw [Bool.eq_iff_iff, decide_eq_true_eq, mem_keptL]
  constructor
  · intro h; exact ⟨k, rfl, by omega, h⟩
  · rintro ⟨j, e, -, h⟩
    have : k = j := by omega
    subst this
    exact h
def lessRel (wl : World) (l : List Int) (n m : Nat) (v19 v21 : Value) (w' : World) : Prop := ∃ k : Nat, k ≤ m ∧ v21 = .int .i64 k ∧ Own (fun _ => False) w' wl.heap.size 3 v19 (lessTo l n k) ∧ Below wl.heap.size wl w'
set_option maxRecDepth 100000 in
set_option maxHeartbeats 8000000 in
theorem thinTells_walk (W : World) (args : Array Value) (h : ArgsRead Try.prog W [3, 28, 3] args.toList) :
    Calls Try.prog 4 args W fun e W' => e = .returned (.bool true) ∧ Below W.heap.size W W' := by
  obtain ⟨v0, v1, v2, rfl, r0, r1, r2⟩ := h.three
  obtain ⟨n, rfl, hn⟩ := r0.int Try.underlying3
  obtain ⟨a, l, c, rfl, hc, hnil, h1⟩ := r1.slice Try.underlying28 Try.opens28
  obtain ⟨t, rfl, ht⟩ := r2.int Try.underlying3
  clear r0 r1 r2 h hn ht hc hnil
  have hsm := h1.small
  obtain ⟨m, hm⟩ : ∃ m, l.length = m := ⟨_, rfl⟩
  rw [hm] at hsm ⊢
  unfold maxLen at hsm
  have HM := Lib.hid hm
  have HL : Hid (∀ w', Below W.heap.size W w' → Arr (· < W.heap.size) w' a l) := fun w' hb => h1.keep (fun b hb' => hb.block b hb')
  clear h1 hm
  go_enter Try.func4, Try.ntmps4
  go_wp2_with fail
  refine (Kept_any W n).mono ?_
  rintro e w1 ⟨v7, rfl, ho, hb⟩
  have HK1 := Lib.hid ho; have HB := Lib.hid hb
  clear ho hb
  go_wp2_with fail
  refine (Add_any (c := c) (n := n) HM.out (HL.out _ HB.out) (fun b hb => Nat.lt_of_lt_of_le hb HB.out.size)).mono ?_
  rintro e w2 ⟨v9, v10, rfl, ho1, ho2, hb⟩
  have HK1 := Lib.hid (own_laterL HK1.out hb)
  have HA1 := Lib.hid ho1; have HG1 := Lib.hid ho2
  have HB := Lib.hid (HB.out.trans (hb.mono HB.out.size))
  clear ho1 ho2 hb
  go_wp2_with fail
  refine (From_any (c := c) (t := t) HM.out (HL.out _ HB.out)).mono ?_
  rintro e w' ⟨rfl, rfl⟩
  by_cases h0 : n < 0
  · have d0 : decide (n < 0) = true := decide_eq_true h0
    have HKR : Hid (keptRes n = ([], 1)) := by show _ = _; unfold keptRes; rw [if_pos (.inl h0)]
    have HAR : Hid (addRes l n = ([], [], 1)) := by show _ = _; unfold addRes; rw [if_pos (.inl (by omega))]
    rw [HKR.out] at HK1 ⊢
    rw [HAR.out] at HA1 HG1 ⊢
    obtain ⟨wl, hwl⟩ : ∃ wl : World, wl = w2 := ⟨_, rfl⟩
    rw [← hwl] at HK1 HA1 HG1 HB ⊢
    clear hwl h0
    have HK2 : Hid (Own (fun _ => False) wl 0 3 (.slice none 0 0) ([] : List Int)) := Own.nil _ _ _ _
    have HA2 := Lib.hid HK2.out; have HG2 := Lib.hid HK2.out
    go_wp2_with fail
    go_loopw [16, 20, 22, 23] (tlRel wl l m t) (fun _ _ _ i _ => m - (intOf i).toNat)
    case atStart => exact ⟨0, Nat.zero_le _, rfl, .inl ⟨(fun j x hj => by omega), rfl, rfl, rfl⟩, Quiet.refl _⟩
    case round =>
      obtain ⟨k, hk, rfl, hcase, hqu⟩ := hrel
      have HQU := Lib.hid hqu
      clear hqu
      rcases hcase with ⟨hok, rfl, rfl, rfl⟩ | ⟨hbad, rfl, f, b, rfl, rfl⟩
      · have HOK := Lib.hid hok
        clear hok
        by_cases hlt : k < m
        · obtain ⟨x, hx⟩ : ∃ x, l[k]? = some x := ⟨_, List.getElem?_eq_getElem (by have := HM.out; omega)⟩
          have HX := Lib.hid hx
          obtain ⟨b1, o1, rfl, -, q1, -⟩ := arr_int ((HL.out _ HB.out).keep (fun b _ => HQU.out.heap b)) hx
          have HFT := Lib.hid (fromTo_succ hx t)
          have HLA : Hid (0 < k → lastAt l k = (l[k - 1]?).getD 0) := fun h => by unfold lastAt; rw [if_neg (by omega)]
          have HLZ : Hid (k = 0 → lastAt l k = -1) := fun h => by unfold lastAt; rw [if_pos h]
          obtain ⟨F, hF⟩ : ∃ F, F = (fromTo l t k).getD 0 := ⟨_, rfl⟩
          obtain ⟨G, hG⟩ : ∃ G, G = (fromTo l t k).isSome := ⟨_, rfl⟩
          rw [← hF, ← hG]
          have HFF := Lib.hid hF; have HGG := Lib.hid hG
          clear hx hF hG
          by_cases hgood : lastAt l k < x
          · have HOK2 := Lib.hid (HOK.out.succ HX.out hgood)
            have hx0 : ¬ x < 0 := fun h => by
              have := HOK2.out.nonneg k x (by omega) HX.out
              omega
            have d1 : decide (x < 0) = false := decide_eq_false hx0
            by_cases hxt : x ≤ t
            · have d4 : decide (x ≤ t) = true := decide_eq_true hxt
              rw [if_pos hxt] at HFT
              by_cases hk0 : k = 0
              · subst hk0
                simp only [Nat.add_zero] at q1
                clear hgood hx0 hxt
                go_wp2_with fail
                first | (refine wp_region_quiet_lit (by kernel_rfl) (by kernel_rfl) ?_; (repeat (go_big_quiet_step (fail))); refine wpQuiet_nil ?_; intro _ hw'; obtain ⟨nq, hw''⟩ := hw'; subst hw'')
                go_wp2_with fail
                go_roundw
                case rel => exact ⟨1, by omega, rfl, .inl ⟨HOK2.out, rfl, by rw [HFT.out]; rfl, by rw [HFT.out]; rfl⟩, quiet_drew HQU.out nq⟩
                case measure => simp [intOf]; omega
              · obtain ⟨y, hy⟩ : ∃ y, l[k - 1]? = some y := ⟨_, List.getElem?_eq_getElem (by have := HM.out; omega)⟩
                obtain ⟨b2, o2, e2, -, q2, -⟩ := arr_int ((HL.out _ HB.out).keep (fun b _ => HQU.out.heap b)) hy
                injection e2 with e2
                injection e2 with e2 e3
                subst e2 e3
                have d2 : decide ((0 : Int) < (k : Int)) = true := by simp; omega
                have d3 : decide (x ≤ y) = false := decide_eq_false (by have := HLA.out (by omega); rw [hy] at this; simp at this; omega)
                have hsub : IntKind.i64.wrap ((k : Int) - 1) = ((k - 1 : Nat) : Int) := by rw [IntKind.wrap_i64]; omega
                have hkm : k - 1 < m := by omega
                have hk1 : 0 < k := by omega
                clear hgood hx0 hxt hk0 hy
                go_wp2_with fail
                first | (refine wp_region_quiet_lit (by kernel_rfl) (by kernel_rfl) ?_; (repeat (go_big_quiet_step (fail))); refine wpQuiet_nil ?_; intro _ hw'; obtain ⟨nq, hw''⟩ := hw'; subst hw'')
                clear hsub
                go_wp2_with fail
                go_roundw
                case rel => exact ⟨k + 1, by omega, by go_num, .inl ⟨HOK2.out, rfl, by rw [HFT.out]; rfl, by rw [HFT.out]; rfl⟩, quiet_drew HQU.out nq⟩
                case measure => simp [intOf]; omega
            · have d4 : decide (x ≤ t) = false := decide_eq_false hxt
              rw [if_neg hxt] at HFT
              by_cases hk0 : k = 0
              · subst hk0
                simp only [Nat.add_zero] at q1
                clear hgood hx0 hxt
                go_wp2_with fail
                first | (refine wp_region_quiet_lit (by kernel_rfl) (by kernel_rfl) ?_; (repeat (go_big_quiet_step (fail))); refine wpQuiet_nil ?_; intro _ hw'; obtain ⟨nq, hw''⟩ := hw'; subst hw'')
                go_wp2_with fail
                go_roundw
                case rel => exact ⟨1, by omega, rfl, .inl ⟨HOK2.out, rfl, by rw [HFT.out, HFF.out], by rw [HFT.out, HGG.out]⟩, quiet_drew HQU.out nq⟩
                case measure => simp [intOf]; omega
              · obtain ⟨y, hy⟩ : ∃ y, l[k - 1]? = some y := ⟨_, List.getElem?_eq_getElem (by have := HM.out; omega)⟩
                obtain ⟨b2, o2, e2, -, q2, -⟩ := arr_int ((HL.out _ HB.out).keep (fun b _ => HQU.out.heap b)) hy
                injection e2 with e2
                injection e2 with e2 e3
                subst e2 e3
                have d2 : decide ((0 : Int) < (k : Int)) = true := by simp; omega
                have d3 : decide (x ≤ y) = false := decide_eq_false (by have := HLA.out (by omega); rw [hy] at this; simp at this; omega)
                have hsub : IntKind.i64.wrap ((k : Int) - 1) = ((k - 1 : Nat) : Int) := by rw [IntKind.wrap_i64]; omega
                have hkm : k - 1 < m := by omega
                have hk1 : 0 < k := by omega
                clear hgood hx0 hxt hk0 hy
                go_wp2_with fail
                first | (refine wp_region_quiet_lit (by kernel_rfl) (by kernel_rfl) ?_; (repeat (go_big_quiet_step (fail))); refine wpQuiet_nil ?_; intro _ hw'; obtain ⟨nq, hw''⟩ := hw'; subst hw'')
                clear hsub
                go_wp2_with fail
                go_roundw
                case rel => exact ⟨k + 1, by omega, by go_num, .inl ⟨HOK2.out, rfl, by rw [HFT.out, HFF.out], by rw [HFT.out, HGG.out]⟩, quiet_drew HQU.out nq⟩
                case measure => simp [intOf]; omega
          · have HBAD : Hid (¬ okTo l m) := okTo.neg HX.out hgood hlt
            by_cases hx0 : x < 0
            · have d1 : decide (x < 0) = true := decide_eq_true hx0
              clear hgood hx0
              go_wp2_with fail
              first | (refine wp_region_quiet_lit (by kernel_rfl) (by kernel_rfl) ?_; (repeat (go_big_quiet_step (fail))); refine wpQuiet_nil ?_; intro _ hw'; obtain ⟨nq, hw''⟩ := hw'; subst hw'')
              go_wp2_with fail
              go_roundw
              case rel => exact ⟨k + 1, by omega, by go_num, .inr ⟨HBAD.out, rfl, F, G, rfl, rfl⟩, quiet_drew HQU.out nq⟩
              case measure => simp [intOf]; omega
            · have d1 : decide (x < 0) = false := decide_eq_false hx0
              have hk0 : ¬ k = 0 := fun e => by have := HLZ.out e; omega
              obtain ⟨y, hy⟩ : ∃ y, l[k - 1]? = some y := ⟨_, List.getElem?_eq_getElem (by have := HM.out; omega)⟩
              obtain ⟨b2, o2, e2, -, q2, -⟩ := arr_int ((HL.out _ HB.out).keep (fun b _ => HQU.out.heap b)) hy
              injection e2 with e2
              injection e2 with e2 e3
              subst e2 e3
              have d2 : decide ((0 : Int) < (k : Int)) = true := by simp; omega
              have d3 : decide (x ≤ y) = true := decide_eq_true (by have := HLA.out (by omega); rw [hy] at this; simp at this; omega)
              have hsub : IntKind.i64.wrap ((k : Int) - 1) = ((k - 1 : Nat) : Int) := by rw [IntKind.wrap_i64]; omega
              have hkm : k - 1 < m := by omega
              have hk1 : 0 < k := by omega
              clear hgood hx0 hk0 hy
              go_wp2_with fail
              first | (refine wp_region_quiet_lit (by kernel_rfl) (by kernel_rfl) ?_; (repeat (go_big_quiet_step (fail))); refine wpQuiet_nil ?_; intro _ hw'; obtain ⟨nq, hw''⟩ := hw'; subst hw'')
              clear hsub
              go_wp2_with fail
              go_roundw
              case rel => exact ⟨k + 1, by omega, by go_num, .inr ⟨HBAD.out, rfl, F, G, rfl, rfl⟩, quiet_drew HQU.out nq⟩
              case measure => simp [intOf]; omega
        · obtain rfl : k = m := by omega
          have HOKN : Hid (okTo l l.length) := by show okTo _ _; rw [HM.out]; exact HOK.out
          have HK1 := Lib.hid (own_quietL HK1.out HQU.out); have HK2 := Lib.hid (own_quietL HK2.out HQU.out); have HA1 := Lib.hid (own_quietL HA1.out HQU.out); have HA2 := Lib.hid (own_quietL HA2.out HQU.out); have HG1 := Lib.hid (own_quietL HG1.out HQU.out); have HG2 := Lib.hid (own_quietL HG2.out HQU.out); have HB := Lib.hid (HB.out.trans ((HQU.out.below _).mono HB.out.size))
          cases hf : fromTo l t k with
          | none =>
            have HFR := Lib.hid (fromRes_none HOKN.out (t := t) (by rw [HM.out]; exact hf))
            clear hf
            go_wp2_with fail
            refine (same_own HK1.out HK2.out).mono ?_
            rintro e w5 ⟨rfl, hq5⟩
            have HA1 := Lib.hid (own_quietL HA1.out hq5); have HA2 := Lib.hid (own_quietL HA2.out hq5); have HG1 := Lib.hid (own_quietL HG1.out hq5); have HG2 := Lib.hid (own_quietL HG2.out hq5); have HB := Lib.hid (HB.out.trans ((hq5.below _).mono HB.out.size))
            clear hq5 HK1 HK2
            go_wp2_with fail
            refine (same_own HA1.out HA2.out).mono ?_
            rintro e w6 ⟨rfl, hq6⟩
            have HG1 := Lib.hid (own_quietL HG1.out hq6); have HG2 := Lib.hid (own_quietL HG2.out hq6); have HB := Lib.hid (HB.out.trans ((hq6.below _).mono HB.out.size))
            clear hq6 HA1 HA2
            go_wp2_with fail
            refine (same_own HG1.out HG2.out).mono ?_
            rintro e w7 ⟨rfl, hq7⟩
            have HB := Lib.hid (HB.out.trans ((hq7.below _).mono HB.out.size))
            clear hq7 HG1 HG2
            rw [HFR.out]
            go_wp2_with fail
            go_ret
            exact ⟨rfl, HB.out⟩
          | some y =>
            have HFR := Lib.hid (fromRes_some HOKN.out (t := t) (by rw [HM.out]; exact hf))
            clear hf
            go_wp2_with fail
            refine (same_own HK1.out HK2.out).mono ?_
            rintro e w5 ⟨rfl, hq5⟩
            have HA1 := Lib.hid (own_quietL HA1.out hq5); have HA2 := Lib.hid (own_quietL HA2.out hq5); have HG1 := Lib.hid (own_quietL HG1.out hq5); have HG2 := Lib.hid (own_quietL HG2.out hq5); have HB := Lib.hid (HB.out.trans ((hq5.below _).mono HB.out.size))
            clear hq5 HK1 HK2
            go_wp2_with fail
            refine (same_own HA1.out HA2.out).mono ?_
            rintro e w6 ⟨rfl, hq6⟩
            have HG1 := Lib.hid (own_quietL HG1.out hq6); have HG2 := Lib.hid (own_quietL HG2.out hq6); have HB := Lib.hid (HB.out.trans ((hq6.below _).mono HB.out.size))
            clear hq6 HA1 HA2
            go_wp2_with fail
            refine (same_own HG1.out HG2.out).mono ?_
            rintro e w7 ⟨rfl, hq7⟩
            have HB := Lib.hid (HB.out.trans ((hq7.below _).mono HB.out.size))
            clear hq7 HG1 HG2
            rw [HFR.out]
            go_wp2_with fail
            go_ret
            exact ⟨rfl, HB.out⟩
      · have HFR := Lib.hid (fromRes_bad (t := t) (by rw [HM.out]; exact hbad))
        clear hbad
        have HK1 := Lib.hid (own_quietL HK1.out HQU.out); have HK2 := Lib.hid (own_quietL HK2.out HQU.out); have HA1 := Lib.hid (own_quietL HA1.out HQU.out); have HA2 := Lib.hid (own_quietL HA2.out HQU.out); have HG1 := Lib.hid (own_quietL HG1.out HQU.out); have HG2 := Lib.hid (own_quietL HG2.out HQU.out); have HB := Lib.hid (HB.out.trans ((HQU.out.below _).mono HB.out.size))
        by_cases hlt : k < m
        · skip
          go_wp2_with fail
          refine (same_own HK1.out HK2.out).mono ?_
          rintro e w5 ⟨rfl, hq5⟩
          have HA1 := Lib.hid (own_quietL HA1.out hq5); have HA2 := Lib.hid (own_quietL HA2.out hq5); have HG1 := Lib.hid (own_quietL HG1.out hq5); have HG2 := Lib.hid (own_quietL HG2.out hq5); have HB := Lib.hid (HB.out.trans ((hq5.below _).mono HB.out.size))
          clear hq5 HK1 HK2
          go_wp2_with fail
          refine (same_own HA1.out HA2.out).mono ?_
          rintro e w6 ⟨rfl, hq6⟩
          have HG1 := Lib.hid (own_quietL HG1.out hq6); have HG2 := Lib.hid (own_quietL HG2.out hq6); have HB := Lib.hid (HB.out.trans ((hq6.below _).mono HB.out.size))
          clear hq6 HA1 HA2
          go_wp2_with fail
          refine (same_own HG1.out HG2.out).mono ?_
          rintro e w7 ⟨rfl, hq7⟩
          have HB := Lib.hid (HB.out.trans ((hq7.below _).mono HB.out.size))
          clear hq7 HG1 HG2
          rw [HFR.out]
          go_wp2_with fail
          go_ret
          exact ⟨rfl, HB.out⟩
        · skip
          go_wp2_with fail
          refine (same_own HK1.out HK2.out).mono ?_
          rintro e w5 ⟨rfl, hq5⟩
          have HA1 := Lib.hid (own_quietL HA1.out hq5); have HA2 := Lib.hid (own_quietL HA2.out hq5); have HG1 := Lib.hid (own_quietL HG1.out hq5); have HG2 := Lib.hid (own_quietL HG2.out hq5); have HB := Lib.hid (HB.out.trans ((hq5.below _).mono HB.out.size))
          clear hq5 HK1 HK2
          go_wp2_with fail
          refine (same_own HA1.out HA2.out).mono ?_
          rintro e w6 ⟨rfl, hq6⟩
          have HG1 := Lib.hid (own_quietL HG1.out hq6); have HG2 := Lib.hid (own_quietL HG2.out hq6); have HB := Lib.hid (HB.out.trans ((hq6.below _).mono HB.out.size))
          clear hq6 HA1 HA2
          go_wp2_with fail
          refine (same_own HG1.out HG2.out).mono ?_
          rintro e w7 ⟨rfl, hq7⟩
          have HB := Lib.hid (HB.out.trans ((hq7.below _).mono HB.out.size))
          clear hq7 HG1 HG2
          rw [HFR.out]
          go_wp2_with fail
          go_ret
          exact ⟨rfl, HB.out⟩
  · have d0 : decide (n < 0) = false := decide_eq_false h0
    by_cases h4 : 4000 < n
    · have d1 : decide (4000 < n) = true := decide_eq_true h4
      have HKR : Hid (keptRes n = ([], 1)) := by show _ = _; unfold keptRes; rw [if_pos (.inr h4)]
      have HAR : Hid (addRes l n = ([], [], 1)) := by show _ = _; unfold addRes; rw [if_pos (.inr h4)]
      rw [HKR.out] at HK1 ⊢
      rw [HAR.out] at HA1 HG1 ⊢
      obtain ⟨wl, hwl⟩ : ∃ wl : World, wl = w2 := ⟨_, rfl⟩
      rw [← hwl] at HK1 HA1 HG1 HB ⊢
      clear hwl h0 h4
      have HK2 : Hid (Own (fun _ => False) wl 0 3 (.slice none 0 0) ([] : List Int)) := Own.nil _ _ _ _
      have HA2 := Lib.hid HK2.out; have HG2 := Lib.hid HK2.out
      go_wp2_with fail
      go_loopw [16, 20, 22, 23] (tlRel wl l m t) (fun _ _ _ i _ => m - (intOf i).toNat)
      case atStart => exact ⟨0, Nat.zero_le _, rfl, .inl ⟨(fun j x hj => by omega), rfl, rfl, rfl⟩, Quiet.refl _⟩
      case round =>
        obtain ⟨k, hk, rfl, hcase, hqu⟩ := hrel
        have HQU := Lib.hid hqu
        clear hqu
        rcases hcase with ⟨hok, rfl, rfl, rfl⟩ | ⟨hbad, rfl, f, b, rfl, rfl⟩
        · have HOK := Lib.hid hok
          clear hok
          by_cases hlt : k < m
          · obtain ⟨x, hx⟩ : ∃ x, l[k]? = some x := ⟨_, List.getElem?_eq_getElem (by have := HM.out; omega)⟩
            have HX := Lib.hid hx
            obtain ⟨b1, o1, rfl, -, q1, -⟩ := arr_int ((HL.out _ HB.out).keep (fun b _ => HQU.out.heap b)) hx
            have HFT := Lib.hid (fromTo_succ hx t)
            have HLA : Hid (0 < k → lastAt l k = (l[k - 1]?).getD 0) := fun h => by unfold lastAt; rw [if_neg (by omega)]
            have HLZ : Hid (k = 0 → lastAt l k = -1) := fun h => by unfold lastAt; rw [if_pos h]
            obtain ⟨F, hF⟩ : ∃ F, F = (fromTo l t k).getD 0 := ⟨_, rfl⟩
            obtain ⟨G, hG⟩ : ∃ G, G = (fromTo l t k).isSome := ⟨_, rfl⟩
            rw [← hF, ← hG]
            have HFF := Lib.hid hF; have HGG := Lib.hid hG
            clear hx hF hG
            by_cases hgood : lastAt l k < x
            · have HOK2 := Lib.hid (HOK.out.succ HX.out hgood)
              have hx0 : ¬ x < 0 := fun h => by
                have := HOK2.out.nonneg k x (by omega) HX.out
                omega
              have d1 : decide (x < 0) = false := decide_eq_false hx0
              by_cases hxt : x ≤ t
              · have d4 : decide (x ≤ t) = true := decide_eq_true hxt
                rw [if_pos hxt] at HFT
                by_cases hk0 : k = 0
                · subst hk0
                  simp only [Nat.add_zero] at q1
                  clear hgood hx0 hxt
                  go_wp2_with fail
                  first | (refine wp_region_quiet_lit (by kernel_rfl) (by kernel_rfl) ?_; (repeat (go_big_quiet_step (fail))); refine wpQuiet_nil ?_; intro _ hw'; obtain ⟨nq, hw''⟩ := hw'; subst hw'')
                  go_wp2_with fail
                  go_roundw
                  case rel => exact ⟨1, by omega, rfl, .inl ⟨HOK2.out, rfl, by rw [HFT.out]; rfl, by rw [HFT.out]; rfl⟩, quiet_drew HQU.out nq⟩
                  case measure => simp [intOf]; omega
                · obtain ⟨y, hy⟩ : ∃ y, l[k - 1]? = some y := ⟨_, List.getElem?_eq_getElem (by have := HM.out; omega)⟩
                  obtain ⟨b2, o2, e2, -, q2, -⟩ := arr_int ((HL.out _ HB.out).keep (fun b _ => HQU.out.heap b)) hy
                  injection e2 with e2
                  injection e2 with e2 e3
                  subst e2 e3
                  have d2 : decide ((0 : Int) < (k : Int)) = true := by simp; omega
                  have d3 : decide (x ≤ y) = false := decide_eq_false (by have := HLA.out (by omega); rw [hy] at this; simp at this; omega)
                  have hsub : IntKind.i64.wrap ((k : Int) - 1) = ((k - 1 : Nat) : Int) := by rw [IntKind.wrap_i64]; omega
                  have hkm : k - 1 < m := by omega
                  have hk1 : 0 < k := by omega
                  clear hgood hx0 hxt hk0 hy
                  go_wp2_with fail
                  first | (refine wp_region_quiet_lit (by kernel_rfl) (by kernel_rfl) ?_; (repeat (go_big_quiet_step (fail))); refine wpQuiet_nil ?_; intro _ hw'; obtain ⟨nq, hw''⟩ := hw'; subst hw'')
                  clear hsub
                  go_wp2_with fail
                  go_roundw
                  case rel => exact ⟨k + 1, by omega, by go_num, .inl ⟨HOK2.out, rfl, by rw [HFT.out]; rfl, by rw [HFT.out]; rfl⟩, quiet_drew HQU.out nq⟩
                  case measure => simp [intOf]; omega
              · have d4 : decide (x ≤ t) = false := decide_eq_false hxt
                rw [if_neg hxt] at HFT
                by_cases hk0 : k = 0
                · subst hk0
                  simp only [Nat.add_zero] at q1
                  clear hgood hx0 hxt
                  go_wp2_with fail
                  first | (refine wp_region_quiet_lit (by kernel_rfl) (by kernel_rfl) ?_; (repeat (go_big_quiet_step (fail))); refine wpQuiet_nil ?_; intro _ hw'; obtain ⟨nq, hw''⟩ := hw'; subst hw'')
                  go_wp2_with fail
                  go_roundw
                  case rel => exact ⟨1, by omega, rfl, .inl ⟨HOK2.out, rfl, by rw [HFT.out, HFF.out], by rw [HFT.out, HGG.out]⟩, quiet_drew HQU.out nq⟩
                  case measure => simp [intOf]; omega
                · obtain ⟨y, hy⟩ : ∃ y, l[k - 1]? = some y := ⟨_, List.getElem?_eq_getElem (by have := HM.out; omega)⟩
                  obtain ⟨b2, o2, e2, -, q2, -⟩ := arr_int ((HL.out _ HB.out).keep (fun b _ => HQU.out.heap b)) hy
                  injection e2 with e2
                  injection e2 with e2 e3
                  subst e2 e3
                  have d2 : decide ((0 : Int) < (k : Int)) = true := by simp; omega
                  have d3 : decide (x ≤ y) = false := decide_eq_false (by have := HLA.out (by omega); rw [hy] at this; simp at this; omega)
                  have hsub : IntKind.i64.wrap ((k : Int) - 1) = ((k - 1 : Nat) : Int) := by rw [IntKind.wrap_i64]; omega
                  have hkm : k - 1 < m := by omega
                  have hk1 : 0 < k := by omega
                  clear hgood hx0 hxt hk0 hy
                  go_wp2_with fail
                  first | (refine wp_region_quiet_lit (by kernel_rfl) (by kernel_rfl) ?_; (repeat (go_big_quiet_step (fail))); refine wpQuiet_nil ?_; intro _ hw'; obtain ⟨nq, hw''⟩ := hw'; subst hw'')
                  clear hsub
                  go_wp2_with fail
                  go_roundw
                  case rel => exact ⟨k + 1, by omega, by go_num, .inl ⟨HOK2.out, rfl, by rw [HFT.out, HFF.out], by rw [HFT.out, HGG.out]⟩, quiet_drew HQU.out nq⟩
                  case measure => simp [intOf]; omega
            · have HBAD : Hid (¬ okTo l m) := okTo.neg HX.out hgood hlt
              by_cases hx0 : x < 0
              · have d1 : decide (x < 0) = true := decide_eq_true hx0
                clear hgood hx0
                go_wp2_with fail
                first | (refine wp_region_quiet_lit (by kernel_rfl) (by kernel_rfl) ?_; (repeat (go_big_quiet_step (fail))); refine wpQuiet_nil ?_; intro _ hw'; obtain ⟨nq, hw''⟩ := hw'; subst hw'')
                go_wp2_with fail
                go_roundw
                case rel => exact ⟨k + 1, by omega, by go_num, .inr ⟨HBAD.out, rfl, F, G, rfl, rfl⟩, quiet_drew HQU.out nq⟩
                case measure => simp [intOf]; omega
              · have d1 : decide (x < 0) = false := decide_eq_false hx0
                have hk0 : ¬ k = 0 := fun e => by have := HLZ.out e; omega
                obtain ⟨y, hy⟩ : ∃ y, l[k - 1]? = some y := ⟨_, List.getElem?_eq_getElem (by have := HM.out; omega)⟩
                obtain ⟨b2, o2, e2, -, q2, -⟩ := arr_int ((HL.out _ HB.out).keep (fun b _ => HQU.out.heap b)) hy
                injection e2 with e2
                injection e2 with e2 e3
                subst e2 e3
                have d2 : decide ((0 : Int) < (k : Int)) = true := by simp; omega
                have d3 : decide (x ≤ y) = true := decide_eq_true (by have := HLA.out (by omega); rw [hy] at this; simp at this; omega)
                have hsub : IntKind.i64.wrap ((k : Int) - 1) = ((k - 1 : Nat) : Int) := by rw [IntKind.wrap_i64]; omega
                have hkm : k - 1 < m := by omega
                have hk1 : 0 < k := by omega
                clear hgood hx0 hk0 hy
                go_wp2_with fail
                first | (refine wp_region_quiet_lit (by kernel_rfl) (by kernel_rfl) ?_; (repeat (go_big_quiet_step (fail))); refine wpQuiet_nil ?_; intro _ hw'; obtain ⟨nq, hw''⟩ := hw'; subst hw'')
                clear hsub
                go_wp2_with fail
                go_roundw
                case rel => exact ⟨k + 1, by omega, by go_num, .inr ⟨HBAD.out, rfl, F, G, rfl, rfl⟩, quiet_drew HQU.out nq⟩
                case measure => simp [intOf]; omega
          · obtain rfl : k = m := by omega
            have HOKN : Hid (okTo l l.length) := by show okTo _ _; rw [HM.out]; exact HOK.out
            have HK1 := Lib.hid (own_quietL HK1.out HQU.out); have HK2 := Lib.hid (own_quietL HK2.out HQU.out); have HA1 := Lib.hid (own_quietL HA1.out HQU.out); have HA2 := Lib.hid (own_quietL HA2.out HQU.out); have HG1 := Lib.hid (own_quietL HG1.out HQU.out); have HG2 := Lib.hid (own_quietL HG2.out HQU.out); have HB := Lib.hid (HB.out.trans ((HQU.out.below _).mono HB.out.size))
            cases hf : fromTo l t k with
            | none =>
              have HFR := Lib.hid (fromRes_none HOKN.out (t := t) (by rw [HM.out]; exact hf))
              clear hf
              go_wp2_with fail
              refine (same_own HK1.out HK2.out).mono ?_
              rintro e w5 ⟨rfl, hq5⟩
              have HA1 := Lib.hid (own_quietL HA1.out hq5); have HA2 := Lib.hid (own_quietL HA2.out hq5); have HG1 := Lib.hid (own_quietL HG1.out hq5); have HG2 := Lib.hid (own_quietL HG2.out hq5); have HB := Lib.hid (HB.out.trans ((hq5.below _).mono HB.out.size))
              clear hq5 HK1 HK2
              go_wp2_with fail
              refine (same_own HA1.out HA2.out).mono ?_
              rintro e w6 ⟨rfl, hq6⟩
              have HG1 := Lib.hid (own_quietL HG1.out hq6); have HG2 := Lib.hid (own_quietL HG2.out hq6); have HB := Lib.hid (HB.out.trans ((hq6.below _).mono HB.out.size))
              clear hq6 HA1 HA2
              go_wp2_with fail
              refine (same_own HG1.out HG2.out).mono ?_
              rintro e w7 ⟨rfl, hq7⟩
              have HB := Lib.hid (HB.out.trans ((hq7.below _).mono HB.out.size))
              clear hq7 HG1 HG2
              rw [HFR.out]
              go_wp2_with fail
              go_ret
              exact ⟨rfl, HB.out⟩
            | some y =>
              have HFR := Lib.hid (fromRes_some HOKN.out (t := t) (by rw [HM.out]; exact hf))
              clear hf
              go_wp2_with fail
              refine (same_own HK1.out HK2.out).mono ?_
              rintro e w5 ⟨rfl, hq5⟩
              have HA1 := Lib.hid (own_quietL HA1.out hq5); have HA2 := Lib.hid (own_quietL HA2.out hq5); have HG1 := Lib.hid (own_quietL HG1.out hq5); have HG2 := Lib.hid (own_quietL HG2.out hq5); have HB := Lib.hid (HB.out.trans ((hq5.below _).mono HB.out.size))
              clear hq5 HK1 HK2
              go_wp2_with fail
              refine (same_own HA1.out HA2.out).mono ?_
              rintro e w6 ⟨rfl, hq6⟩
              have HG1 := Lib.hid (own_quietL HG1.out hq6); have HG2 := Lib.hid (own_quietL HG2.out hq6); have HB := Lib.hid (HB.out.trans ((hq6.below _).mono HB.out.size))
              clear hq6 HA1 HA2
              go_wp2_with fail
              refine (same_own HG1.out HG2.out).mono ?_
              rintro e w7 ⟨rfl, hq7⟩
              have HB := Lib.hid (HB.out.trans ((hq7.below _).mono HB.out.size))
              clear hq7 HG1 HG2
              rw [HFR.out]
              go_wp2_with fail
              go_ret
              exact ⟨rfl, HB.out⟩
        · have HFR := Lib.hid (fromRes_bad (t := t) (by rw [HM.out]; exact hbad))
          clear hbad
          have HK1 := Lib.hid (own_quietL HK1.out HQU.out); have HK2 := Lib.hid (own_quietL HK2.out HQU.out); have HA1 := Lib.hid (own_quietL HA1.out HQU.out); have HA2 := Lib.hid (own_quietL HA2.out HQU.out); have HG1 := Lib.hid (own_quietL HG1.out HQU.out); have HG2 := Lib.hid (own_quietL HG2.out HQU.out); have HB := Lib.hid (HB.out.trans ((HQU.out.below _).mono HB.out.size))
          by_cases hlt : k < m
          · skip
            go_wp2_with fail
            refine (same_own HK1.out HK2.out).mono ?_
            rintro e w5 ⟨rfl, hq5⟩
            have HA1 := Lib.hid (own_quietL HA1.out hq5); have HA2 := Lib.hid (own_quietL HA2.out hq5); have HG1 := Lib.hid (own_quietL HG1.out hq5); have HG2 := Lib.hid (own_quietL HG2.out hq5); have HB := Lib.hid (HB.out.trans ((hq5.below _).mono HB.out.size))
            clear hq5 HK1 HK2
            go_wp2_with fail
            refine (same_own HA1.out HA2.out).mono ?_
            rintro e w6 ⟨rfl, hq6⟩
            have HG1 := Lib.hid (own_quietL HG1.out hq6); have HG2 := Lib.hid (own_quietL HG2.out hq6); have HB := Lib.hid (HB.out.trans ((hq6.below _).mono HB.out.size))
            clear hq6 HA1 HA2
            go_wp2_with fail
            refine (same_own HG1.out HG2.out).mono ?_
            rintro e w7 ⟨rfl, hq7⟩
            have HB := Lib.hid (HB.out.trans ((hq7.below _).mono HB.out.size))
            clear hq7 HG1 HG2
            rw [HFR.out]
            go_wp2_with fail
            go_ret
            exact ⟨rfl, HB.out⟩
          · skip
            go_wp2_with fail
            refine (same_own HK1.out HK2.out).mono ?_
            rintro e w5 ⟨rfl, hq5⟩
            have HA1 := Lib.hid (own_quietL HA1.out hq5); have HA2 := Lib.hid (own_quietL HA2.out hq5); have HG1 := Lib.hid (own_quietL HG1.out hq5); have HG2 := Lib.hid (own_quietL HG2.out hq5); have HB := Lib.hid (HB.out.trans ((hq5.below _).mono HB.out.size))
            clear hq5 HK1 HK2
            go_wp2_with fail
            refine (same_own HA1.out HA2.out).mono ?_
            rintro e w6 ⟨rfl, hq6⟩
            have HG1 := Lib.hid (own_quietL HG1.out hq6); have HG2 := Lib.hid (own_quietL HG2.out hq6); have HB := Lib.hid (HB.out.trans ((hq6.below _).mono HB.out.size))
            clear hq6 HA1 HA2
            go_wp2_with fail
            refine (same_own HG1.out HG2.out).mono ?_
            rintro e w7 ⟨rfl, hq7⟩
            have HB := Lib.hid (HB.out.trans ((hq7.below _).mono HB.out.size))
            clear hq7 HG1 HG2
            rw [HFR.out]
            go_wp2_with fail
            go_ret
            exact ⟨rfl, HB.out⟩
    · have d1 : decide (4000 < n) = false := decide_eq_false h4
      have HKR : Hid (keptRes n = (keptL n.toNat, 0)) := by show _ = _; unfold keptRes; rw [if_neg (by omega)]
      rw [HKR.out] at HK1 ⊢
      have HC := Lib.hid (thinKept_int w2 (n := n) (by omega) (by omega))
      by_cases hz : n = 0
      · have HAR : Hid (addRes l n = ([], [], 1)) := by show _ = _; unfold addRes; rw [if_pos (.inl (by omega))]
        rw [HAR.out] at HA1 HG1 ⊢
        have dz : (n == 0) = true := by simpa using hz
        clear h0 h4 hz
        go_wp2_with fail
        refine HC.out.mono ?_
        rintro e wl ⟨v17, rfl, ho, hb⟩
        have HK2 := Lib.hid ho
        have HK1 := Lib.hid (own_laterL HK1.out hb); have HA1 := Lib.hid (own_laterL HA1.out hb); have HG1 := Lib.hid (own_laterL HG1.out hb)
        have HB := Lib.hid (HB.out.trans (hb.mono HB.out.size))
        have HA2 : Hid (Own (fun _ => False) wl 0 3 (.slice none 0 0) ([] : List Int)) := Own.nil _ _ _ _
        have HG2 := Lib.hid HA2.out
        clear ho hb HC
        go_wp2_with fail
        go_loopw [16, 20, 22, 23] (tlRel wl l m t) (fun _ _ _ i _ => m - (intOf i).toNat)
        case atStart => exact ⟨0, Nat.zero_le _, rfl, .inl ⟨(fun j x hj => by omega), rfl, rfl, rfl⟩, Quiet.refl _⟩
        case round =>
          obtain ⟨k, hk, rfl, hcase, hqu⟩ := hrel
          have HQU := Lib.hid hqu
          clear hqu
          rcases hcase with ⟨hok, rfl, rfl, rfl⟩ | ⟨hbad, rfl, f, b, rfl, rfl⟩
          · have HOK := Lib.hid hok
            clear hok
            by_cases hlt : k < m
            · obtain ⟨x, hx⟩ : ∃ x, l[k]? = some x := ⟨_, List.getElem?_eq_getElem (by have := HM.out; omega)⟩
              have HX := Lib.hid hx
              obtain ⟨b1, o1, rfl, -, q1, -⟩ := arr_int ((HL.out _ HB.out).keep (fun b _ => HQU.out.heap b)) hx
              have HFT := Lib.hid (fromTo_succ hx t)
              have HLA : Hid (0 < k → lastAt l k = (l[k - 1]?).getD 0) := fun h => by unfold lastAt; rw [if_neg (by omega)]
              have HLZ : Hid (k = 0 → lastAt l k = -1) := fun h => by unfold lastAt; rw [if_pos h]
              obtain ⟨F, hF⟩ : ∃ F, F = (fromTo l t k).getD 0 := ⟨_, rfl⟩
              obtain ⟨G, hG⟩ : ∃ G, G = (fromTo l t k).isSome := ⟨_, rfl⟩
              rw [← hF, ← hG]
              have HFF := Lib.hid hF; have HGG := Lib.hid hG
              clear hx hF hG
              by_cases hgood : lastAt l k < x
              · have HOK2 := Lib.hid (HOK.out.succ HX.out hgood)
                have hx0 : ¬ x < 0 := fun h => by
                  have := HOK2.out.nonneg k x (by omega) HX.out
                  omega
                have d1 : decide (x < 0) = false := decide_eq_false hx0
                by_cases hxt : x ≤ t
                · have d4 : decide (x ≤ t) = true := decide_eq_true hxt
                  rw [if_pos hxt] at HFT
                  by_cases hk0 : k = 0
                  · subst hk0
                    simp only [Nat.add_zero] at q1
                    clear hgood hx0 hxt
                    go_wp2_with fail
                    first | (refine wp_region_quiet_lit (by kernel_rfl) (by kernel_rfl) ?_; (repeat (go_big_quiet_step (fail))); refine wpQuiet_nil ?_; intro _ hw'; obtain ⟨nq, hw''⟩ := hw'; subst hw'')
                    go_wp2_with fail
                    go_roundw
                    case rel => exact ⟨1, by omega, rfl, .inl ⟨HOK2.out, rfl, by rw [HFT.out]; rfl, by rw [HFT.out]; rfl⟩, quiet_drew HQU.out nq⟩
                    case measure => simp [intOf]; omega
                  · obtain ⟨y, hy⟩ : ∃ y, l[k - 1]? = some y := ⟨_, List.getElem?_eq_getElem (by have := HM.out; omega)⟩
                    obtain ⟨b2, o2, e2, -, q2, -⟩ := arr_int ((HL.out _ HB.out).keep (fun b _ => HQU.out.heap b)) hy
                    injection e2 with e2
                    injection e2 with e2 e3
                    subst e2 e3
                    have d2 : decide ((0 : Int) < (k : Int)) = true := by simp; omega
                    have d3 : decide (x ≤ y) = false := decide_eq_false (by have := HLA.out (by omega); rw [hy] at this; simp at this; omega)
                    have hsub : IntKind.i64.wrap ((k : Int) - 1) = ((k - 1 : Nat) : Int) := by rw [IntKind.wrap_i64]; omega
                    have hkm : k - 1 < m := by omega
                    have hk1 : 0 < k := by omega
                    clear hgood hx0 hxt hk0 hy
                    go_wp2_with fail
                    first | (refine wp_region_quiet_lit (by kernel_rfl) (by kernel_rfl) ?_; (repeat (go_big_quiet_step (fail))); refine wpQuiet_nil ?_; intro _ hw'; obtain ⟨nq, hw''⟩ := hw'; subst hw'')
                    clear hsub
                    go_wp2_with fail
                    go_roundw
                    case rel => exact ⟨k + 1, by omega, by go_num, .inl ⟨HOK2.out, rfl, by rw [HFT.out]; rfl, by rw [HFT.out]; rfl⟩, quiet_drew HQU.out nq⟩
                    case measure => simp [intOf]; omega
                · have d4 : decide (x ≤ t) = false := decide_eq_false hxt
                  rw [if_neg hxt] at HFT
                  by_cases hk0 : k = 0
                  · subst hk0
                    simp only [Nat.add_zero] at q1
                    clear hgood hx0 hxt
                    go_wp2_with fail
                    first | (refine wp_region_quiet_lit (by kernel_rfl) (by kernel_rfl) ?_; (repeat (go_big_quiet_step (fail))); refine wpQuiet_nil ?_; intro _ hw'; obtain ⟨nq, hw''⟩ := hw'; subst hw'')
                    go_wp2_with fail
                    go_roundw
                    case rel => exact ⟨1, by omega, rfl, .inl ⟨HOK2.out, rfl, by rw [HFT.out, HFF.out], by rw [HFT.out, HGG.out]⟩, quiet_drew HQU.out nq⟩
                    case measure => simp [intOf]; omega
                  · obtain ⟨y, hy⟩ : ∃ y, l[k - 1]? = some y := ⟨_, List.getElem?_eq_getElem (by have := HM.out; omega)⟩
                    obtain ⟨b2, o2, e2, -, q2, -⟩ := arr_int ((HL.out _ HB.out).keep (fun b _ => HQU.out.heap b)) hy
                    injection e2 with e2
                    injection e2 with e2 e3
                    subst e2 e3
                    have d2 : decide ((0 : Int) < (k : Int)) = true := by simp; omega
                    have d3 : decide (x ≤ y) = false := decide_eq_false (by have := HLA.out (by omega); rw [hy] at this; simp at this; omega)
                    have hsub : IntKind.i64.wrap ((k : Int) - 1) = ((k - 1 : Nat) : Int) := by rw [IntKind.wrap_i64]; omega
                    have hkm : k - 1 < m := by omega
                    have hk1 : 0 < k := by omega
                    clear hgood hx0 hxt hk0 hy
                    go_wp2_with fail
                    first | (refine wp_region_quiet_lit (by kernel_rfl) (by kernel_rfl) ?_; (repeat (go_big_quiet_step (fail))); refine wpQuiet_nil ?_; intro _ hw'; obtain ⟨nq, hw''⟩ := hw'; subst hw'')
                    clear hsub
                    go_wp2_with fail
                    go_roundw
                    case rel => exact ⟨k + 1, by omega, by go_num, .inl ⟨HOK2.out, rfl, by rw [HFT.out, HFF.out], by rw [HFT.out, HGG.out]⟩, quiet_drew HQU.out nq⟩
                    case measure => simp [intOf]; omega
              · have HBAD : Hid (¬ okTo l m) := okTo.neg HX.out hgood hlt
                by_cases hx0 : x < 0
                · have d1 : decide (x < 0) = true := decide_eq_true hx0
                  clear hgood hx0
                  go_wp2_with fail
                  first | (refine wp_region_quiet_lit (by kernel_rfl) (by kernel_rfl) ?_; (repeat (go_big_quiet_step (fail))); refine wpQuiet_nil ?_; intro _ hw'; obtain ⟨nq, hw''⟩ := hw'; subst hw'')
                  go_wp2_with fail
                  go_roundw
                  case rel => exact ⟨k + 1, by omega, by go_num, .inr ⟨HBAD.out, rfl, F, G, rfl, rfl⟩, quiet_drew HQU.out nq⟩
                  case measure => simp [intOf]; omega
                · have d1 : decide (x < 0) = false := decide_eq_false hx0
                  have hk0 : ¬ k = 0 := fun e => by have := HLZ.out e; omega
                  obtain ⟨y, hy⟩ : ∃ y, l[k - 1]? = some y := ⟨_, List.getElem?_eq_getElem (by have := HM.out; omega)⟩
                  obtain ⟨b2, o2, e2, -, q2, -⟩ := arr_int ((HL.out _ HB.out).keep (fun b _ => HQU.out.heap b)) hy
                  injection e2 with e2
                  injection e2 with e2 e3
                  subst e2 e3
                  have d2 : decide ((0 : Int) < (k : Int)) = true := by simp; omega
                  have d3 : decide (x ≤ y) = true := decide_eq_true (by have := HLA.out (by omega); rw [hy] at this; simp at this; omega)
                  have hsub : IntKind.i64.wrap ((k : Int) - 1) = ((k - 1 : Nat) : Int) := by rw [IntKind.wrap_i64]; omega
                  have hkm : k - 1 < m := by omega
                  have hk1 : 0 < k := by omega
                  clear hgood hx0 hk0 hy
                  go_wp2_with fail
                  first | (refine wp_region_quiet_lit (by kernel_rfl) (by kernel_rfl) ?_; (repeat (go_big_quiet_step (fail))); refine wpQuiet_nil ?_; intro _ hw'; obtain ⟨nq, hw''⟩ := hw'; subst hw'')
                  clear hsub
                  go_wp2_with fail
                  go_roundw
                  case rel => exact ⟨k + 1, by omega, by go_num, .inr ⟨HBAD.out, rfl, F, G, rfl, rfl⟩, quiet_drew HQU.out nq⟩
                  case measure => simp [intOf]; omega
            · obtain rfl : k = m := by omega
              have HOKN : Hid (okTo l l.length) := by show okTo _ _; rw [HM.out]; exact HOK.out
              have HK1 := Lib.hid (own_quietL HK1.out HQU.out); have HK2 := Lib.hid (own_quietL HK2.out HQU.out); have HA1 := Lib.hid (own_quietL HA1.out HQU.out); have HA2 := Lib.hid (own_quietL HA2.out HQU.out); have HG1 := Lib.hid (own_quietL HG1.out HQU.out); have HG2 := Lib.hid (own_quietL HG2.out HQU.out); have HB := Lib.hid (HB.out.trans ((HQU.out.below _).mono HB.out.size))
              cases hf : fromTo l t k with
              | none =>
                have HFR := Lib.hid (fromRes_none HOKN.out (t := t) (by rw [HM.out]; exact hf))
                clear hf
                go_wp2_with fail
                refine (same_own HK1.out HK2.out).mono ?_
                rintro e w5 ⟨rfl, hq5⟩
                have HA1 := Lib.hid (own_quietL HA1.out hq5); have HA2 := Lib.hid (own_quietL HA2.out hq5); have HG1 := Lib.hid (own_quietL HG1.out hq5); have HG2 := Lib.hid (own_quietL HG2.out hq5); have HB := Lib.hid (HB.out.trans ((hq5.below _).mono HB.out.size))
                clear hq5 HK1 HK2
                go_wp2_with fail
                refine (same_own HA1.out HA2.out).mono ?_
                rintro e w6 ⟨rfl, hq6⟩
                have HG1 := Lib.hid (own_quietL HG1.out hq6); have HG2 := Lib.hid (own_quietL HG2.out hq6); have HB := Lib.hid (HB.out.trans ((hq6.below _).mono HB.out.size))
                clear hq6 HA1 HA2
                go_wp2_with fail
                refine (same_own HG1.out HG2.out).mono ?_
                rintro e w7 ⟨rfl, hq7⟩
                have HB := Lib.hid (HB.out.trans ((hq7.below _).mono HB.out.size))
                clear hq7 HG1 HG2
                rw [HFR.out]
                go_wp2_with fail
                go_ret
                exact ⟨rfl, HB.out⟩
              | some y =>
                have HFR := Lib.hid (fromRes_some HOKN.out (t := t) (by rw [HM.out]; exact hf))
                clear hf
                go_wp2_with fail
                refine (same_own HK1.out HK2.out).mono ?_
                rintro e w5 ⟨rfl, hq5⟩
                have HA1 := Lib.hid (own_quietL HA1.out hq5); have HA2 := Lib.hid (own_quietL HA2.out hq5); have HG1 := Lib.hid (own_quietL HG1.out hq5); have HG2 := Lib.hid (own_quietL HG2.out hq5); have HB := Lib.hid (HB.out.trans ((hq5.below _).mono HB.out.size))
                clear hq5 HK1 HK2
                go_wp2_with fail
                refine (same_own HA1.out HA2.out).mono ?_
                rintro e w6 ⟨rfl, hq6⟩
                have HG1 := Lib.hid (own_quietL HG1.out hq6); have HG2 := Lib.hid (own_quietL HG2.out hq6); have HB := Lib.hid (HB.out.trans ((hq6.below _).mono HB.out.size))
                clear hq6 HA1 HA2
                go_wp2_with fail
                refine (same_own HG1.out HG2.out).mono ?_
                rintro e w7 ⟨rfl, hq7⟩
                have HB := Lib.hid (HB.out.trans ((hq7.below _).mono HB.out.size))
                clear hq7 HG1 HG2
                rw [HFR.out]
                go_wp2_with fail
                go_ret
                exact ⟨rfl, HB.out⟩
          · have HFR := Lib.hid (fromRes_bad (t := t) (by rw [HM.out]; exact hbad))
            clear hbad
            have HK1 := Lib.hid (own_quietL HK1.out HQU.out); have HK2 := Lib.hid (own_quietL HK2.out HQU.out); have HA1 := Lib.hid (own_quietL HA1.out HQU.out); have HA2 := Lib.hid (own_quietL HA2.out HQU.out); have HG1 := Lib.hid (own_quietL HG1.out HQU.out); have HG2 := Lib.hid (own_quietL HG2.out HQU.out); have HB := Lib.hid (HB.out.trans ((HQU.out.below _).mono HB.out.size))
            by_cases hlt : k < m
            · skip
              go_wp2_with fail
              refine (same_own HK1.out HK2.out).mono ?_
              rintro e w5 ⟨rfl, hq5⟩
              have HA1 := Lib.hid (own_quietL HA1.out hq5); have HA2 := Lib.hid (own_quietL HA2.out hq5); have HG1 := Lib.hid (own_quietL HG1.out hq5); have HG2 := Lib.hid (own_quietL HG2.out hq5); have HB := Lib.hid (HB.out.trans ((hq5.below _).mono HB.out.size))
              clear hq5 HK1 HK2
              go_wp2_with fail
              refine (same_own HA1.out HA2.out).mono ?_
              rintro e w6 ⟨rfl, hq6⟩
              have HG1 := Lib.hid (own_quietL HG1.out hq6); have HG2 := Lib.hid (own_quietL HG2.out hq6); have HB := Lib.hid (HB.out.trans ((hq6.below _).mono HB.out.size))
              clear hq6 HA1 HA2
              go_wp2_with fail
              refine (same_own HG1.out HG2.out).mono ?_
              rintro e w7 ⟨rfl, hq7⟩
              have HB := Lib.hid (HB.out.trans ((hq7.below _).mono HB.out.size))
              clear hq7 HG1 HG2
              rw [HFR.out]
              go_wp2_with fail
              go_ret
              exact ⟨rfl, HB.out⟩
            · skip
              go_wp2_with fail
              refine (same_own HK1.out HK2.out).mono ?_
              rintro e w5 ⟨rfl, hq5⟩
              have HA1 := Lib.hid (own_quietL HA1.out hq5); have HA2 := Lib.hid (own_quietL HA2.out hq5); have HG1 := Lib.hid (own_quietL HG1.out hq5); have HG2 := Lib.hid (own_quietL HG2.out hq5); have HB := Lib.hid (HB.out.trans ((hq5.below _).mono HB.out.size))
              clear hq5 HK1 HK2
              go_wp2_with fail
              refine (same_own HA1.out HA2.out).mono ?_
              rintro e w6 ⟨rfl, hq6⟩
              have HG1 := Lib.hid (own_quietL HG1.out hq6); have HG2 := Lib.hid (own_quietL HG2.out hq6); have HB := Lib.hid (HB.out.trans ((hq6.below _).mono HB.out.size))
              clear hq6 HA1 HA2
              go_wp2_with fail
              refine (same_own HG1.out HG2.out).mono ?_
              rintro e w7 ⟨rfl, hq7⟩
              have HB := Lib.hid (HB.out.trans ((hq7.below _).mono HB.out.size))
              clear hq7 HG1 HG2
              rw [HFR.out]
              go_wp2_with fail
              go_ret
              exact ⟨rfl, HB.out⟩
      · have dz : (n == 0) = false := by simpa using hz
        have HAR : Hid (addRes l n = if l = keptL (n - 1).toNat then (keptL n.toNat, l.filter (fun x => !decide (x ∈ keptL n.toNat)), 0) else ([], [], 3)) := by show _ = _; unfold addRes; rw [if_neg (by omega)]
        have HC2 : Hid (∀ w, Calls Try.prog 18 #[.int .i64 (n - 1)] w (ListPost w (keptL (n - 1).toNat))) := fun w => thinKept_int w (by omega) (by omega)
        have hn1 : 1 ≤ n := by omega
        have hn4 : n ≤ 4000 := by omega
        clear h0 h4 hz
        go_wp2_with fail
        refine HC.out.mono ?_
        rintro e w3 ⟨v17, rfl, ho, hb⟩
        have HK2 := Lib.hid ho
        have HK1 := Lib.hid (own_laterL HK1.out hb); have HA1 := Lib.hid (own_laterL HA1.out hb); have HG1 := Lib.hid (own_laterL HG1.out hb)
        have HB := Lib.hid (HB.out.trans (hb.mono HB.out.size))
        clear ho hb HC
        go_wp2_with fail
        refine (HC2.out _).mono ?_
        rintro e w4 ⟨v55, rfl, ho, hb⟩
        have HS := Lib.hid (same_arr_own (c := c) HM.out (HL.out _ (HB.out.trans (hb.mono HB.out.size))) ho)
        have HK2 := Lib.hid (own_laterL HK2.out hb)
        have HK1 := Lib.hid (own_laterL HK1.out hb); have HA1 := Lib.hid (own_laterL HA1.out hb); have HG1 := Lib.hid (own_laterL HG1.out hb)
        have HB := Lib.hid (HB.out.trans (hb.mono HB.out.size))
        clear ho hb HC2
        by_cases he : l = keptL (n - 1).toNat
        · rw [decide_eq_true he] at HS
          rw [HAR.out, if_pos he] at HA1 HG1 ⊢
          have HLG := Lib.hid (less_gone (n := n.toNat) he (by omega))
          have hml : m ≤ 4001 := by
            have h1 := keptL_len (n - 1).toNat
            rw [← he, HM.out] at h1
            omega
          have HLB : Hid (∀ (k : Nat) (x : Int), l[k]? = some x → 0 ≤ x ∧ x ≤ 4000) := fun k x hx => by
            have h1 : x ∈ l := List.mem_of_getElem? hx
            rw [he] at h1
            obtain ⟨j, rfl, hj, -⟩ := mem_keptL.1 h1
            omega
          clear he HAR
          go_wp2_with fail
          refine HS.out.mono ?_
          rintro e wc ⟨rfl, hq⟩
          have HK1 := Lib.hid (own_quietL HK1.out hq); have HK2 := Lib.hid (own_quietL HK2.out hq); have HA1 := Lib.hid (own_quietL HA1.out hq); have HG1 := Lib.hid (own_quietL HG1.out hq); have HB := Lib.hid (HB.out.trans ((hq.below _).mono HB.out.size))
          clear hq HS
          go_wp2_with fail
          go_loopw [19, 21] (lessRel wc l n.toNat m) (fun _ i _ => m - (intOf i).toNat)
          case atStart => exact ⟨0, Nat.zero_le _, rfl, Own.nil _ _ _ _, Below.refl _ _⟩
          case round =>
            obtain ⟨k, hk, rfl, hown, hb⟩ := hrel
            have HO := Lib.hid hown; have HBW := Lib.hid hb
            have hbs := hb.size
            have hgl : (lessTo l n.toNat k).length ≤ 4001 := by
              have := lessTo_len l n.toNat k
              have := HM.out
              omega
            clear hown hb
            by_cases hlt : k < m
            · obtain ⟨x, hx⟩ : ∃ x, l[k]? = some x := ⟨_, List.getElem?_eq_getElem (by have := HM.out; omega)⟩
              obtain ⟨b1, o1, rfl, -, q1, ix⟩ := arr_int (HL.out _ (HB.out.trans (HBW.out.mono HB.out.size))) hx
              have HLS := Lib.hid (lessTo_succ (n := n.toNat) hx)
              obtain ⟨hx0, hx4⟩ := HLB.out k x hx
              have HIK := Lib.hid (isKept_any wr (n := n.toNat) (k := x.toNat) (by omega) (by omega))
              rw [show ((x.toNat : Nat) : Int) = x by omega, show ((n.toNat : Nat) : Int) = n by omega] at HIK
              have HIX := Lib.hid ix
              clear hx ix
              cases hik : isKept x.toNat n.toNat with
              | true =>
                rw [hik] at HIK HLS
                clear hik
                go_wp2_with (go_at_call 20; (with_reducible refine HIK.out.mono ?_); rintro e w' ⟨rfl, rfl⟩)
                go_roundw
                case rel => exact ⟨k + 1, by omega, by go_num, by rw [HLS.out]; simpa using HO.out, HBW.out⟩
                case measure => simp [intOf]; omega
              | false =>
                rw [hik] at HIK HLS
                clear hik
                go_wp2_with (first
                  | (go_at_call 20; (with_reducible refine HIK.out.mono ?_); rintro e w' ⟨rfl, rfl⟩)
                  | ((at_builtin; with_reducible refine Try.wp_app28 rfl rfl rfl rfl rfl (by first | rfl | simp) (HO.out) (int_cells HIX.out _ _) (fun _ h => h.elim) (by omega) (by first | omega | (simp; omega)) fun v' w' hown' hg' => ?_); have HO' := Lib.hid hown'; have HBW' := Lib.hid (HBW.out.grown hg' hbs (fun r hr => (HO.out.lt r hr).1)); clear hown' hg'))
                go_roundw
                case rel => exact ⟨k + 1, by omega, by go_num, by rw [HLS.out]; exact HO'.out, HBW'.out⟩
                case measure => simp [intOf]; omega
            · obtain rfl : k = m := by omega
              have HG2 : Hid (Own (fun _ => False) wr wc.heap.size 3 u19 (l.filter (fun x => !decide (x ∈ keptL n.toNat)))) := by
                show Own _ _ _ _ _ _
                rw [← HLG.out, HM.out]
                exact HO.out
              have HK1 := Lib.hid (own_laterL HK1.out HBW.out); have HK2 := Lib.hid (own_laterL HK2.out HBW.out); have HA1 := Lib.hid (own_laterL HA1.out HBW.out); have HG1 := Lib.hid (own_laterL HG1.out HBW.out)
              have HA2 := Lib.hid HK2.out
              have HB := Lib.hid (HB.out.trans (HBW.out.mono HB.out.size))
              obtain ⟨m, hm⟩ : ∃ m, m = k := ⟨_, rfl⟩
              rw [← hm] at HM hsm ⊢
              clear HO HLG HBW hgl hm
              obtain ⟨wl, hwl⟩ : ∃ wl : World, wl = wr := ⟨_, rfl⟩
              rw [← hwl] at HK1 HK2 HA1 HA2 HG1 HG2 HB ⊢
              clear hwl
              go_wp2_with fail
              go_loopw [16, 20, 22, 23] (tlRel wl l m t) (fun _ _ _ i _ => m - (intOf i).toNat)
              case atStart => exact ⟨0, Nat.zero_le _, rfl, .inl ⟨(fun j x hj => by omega), rfl, rfl, rfl⟩, Quiet.refl _⟩
              case round =>
                obtain ⟨k, hk, rfl, hcase, hqu⟩ := hrel
                have HQU := Lib.hid hqu
                clear hqu
                rcases hcase with ⟨hok, rfl, rfl, rfl⟩ | ⟨hbad, rfl, f, b, rfl, rfl⟩
                · have HOK := Lib.hid hok
                  clear hok
                  by_cases hlt : k < m
                  · obtain ⟨x, hx⟩ : ∃ x, l[k]? = some x := ⟨_, List.getElem?_eq_getElem (by have := HM.out; omega)⟩
                    have HX := Lib.hid hx
                    obtain ⟨b1, o1, rfl, -, q1, -⟩ := arr_int ((HL.out _ HB.out).keep (fun b _ => HQU.out.heap b)) hx
                    have HFT := Lib.hid (fromTo_succ hx t)
                    have HLA : Hid (0 < k → lastAt l k = (l[k - 1]?).getD 0) := fun h => by unfold lastAt; rw [if_neg (by omega)]
                    have HLZ : Hid (k = 0 → lastAt l k = -1) := fun h => by unfold lastAt; rw [if_pos h]
                    obtain ⟨F, hF⟩ : ∃ F, F = (fromTo l t k).getD 0 := ⟨_, rfl⟩
                    obtain ⟨G, hG⟩ : ∃ G, G = (fromTo l t k).isSome := ⟨_, rfl⟩
                    rw [← hF, ← hG]
                    have HFF := Lib.hid hF; have HGG := Lib.hid hG
                    clear hx hF hG
                    by_cases hgood : lastAt l k < x
                    · have HOK2 := Lib.hid (HOK.out.succ HX.out hgood)
                      have hx0 : ¬ x < 0 := fun h => by
                        have := HOK2.out.nonneg k x (by omega) HX.out
                        omega
                      have d1 : decide (x < 0) = false := decide_eq_false hx0
                      by_cases hxt : x ≤ t
                      · have d4 : decide (x ≤ t) = true := decide_eq_true hxt
                        rw [if_pos hxt] at HFT
                        by_cases hk0 : k = 0
                        · subst hk0
                          simp only [Nat.add_zero] at q1
                          clear hgood hx0 hxt
                          go_wp2_with fail
                          first | (refine wp_region_quiet_lit (by kernel_rfl) (by kernel_rfl) ?_; (repeat (go_big_quiet_step (fail))); refine wpQuiet_nil ?_; intro _ hw'; obtain ⟨nq, hw''⟩ := hw'; subst hw'')
                          go_wp2_with fail
                          go_roundw
                          case rel => exact ⟨1, by omega, rfl, .inl ⟨HOK2.out, rfl, by rw [HFT.out]; rfl, by rw [HFT.out]; rfl⟩, quiet_drew HQU.out nq⟩
                          case measure => simp [intOf]; omega
                        · obtain ⟨y, hy⟩ : ∃ y, l[k - 1]? = some y := ⟨_, List.getElem?_eq_getElem (by have := HM.out; omega)⟩
                          obtain ⟨b2, o2, e2, -, q2, -⟩ := arr_int ((HL.out _ HB.out).keep (fun b _ => HQU.out.heap b)) hy
                          injection e2 with e2
                          injection e2 with e2 e3
                          subst e2 e3
                          have d2 : decide ((0 : Int) < (k : Int)) = true := by simp; omega
                          have d3 : decide (x ≤ y) = false := decide_eq_false (by have := HLA.out (by omega); rw [hy] at this; simp at this; omega)
                          have hsub : IntKind.i64.wrap ((k : Int) - 1) = ((k - 1 : Nat) : Int) := by rw [IntKind.wrap_i64]; omega
                          have hkm : k - 1 < m := by omega
                          have hk1 : 0 < k := by omega
                          clear hgood hx0 hxt hk0 hy
                          go_wp2_with fail
                          first | (refine wp_region_quiet_lit (by kernel_rfl) (by kernel_rfl) ?_; (repeat (go_big_quiet_step (fail))); refine wpQuiet_nil ?_; intro _ hw'; obtain ⟨nq, hw''⟩ := hw'; subst hw'')
                          clear hsub
                          go_wp2_with fail
                          go_roundw
                          case rel => exact ⟨k + 1, by omega, by go_num, .inl ⟨HOK2.out, rfl, by rw [HFT.out]; rfl, by rw [HFT.out]; rfl⟩, quiet_drew HQU.out nq⟩
                          case measure => simp [intOf]; omega
                      · have d4 : decide (x ≤ t) = false := decide_eq_false hxt
                        rw [if_neg hxt] at HFT
                        by_cases hk0 : k = 0
                        · subst hk0
                          simp only [Nat.add_zero] at q1
                          clear hgood hx0 hxt
                          go_wp2_with fail
                          first | (refine wp_region_quiet_lit (by kernel_rfl) (by kernel_rfl) ?_; (repeat (go_big_quiet_step (fail))); refine wpQuiet_nil ?_; intro _ hw'; obtain ⟨nq, hw''⟩ := hw'; subst hw'')
                          go_wp2_with fail
                          go_roundw
                          case rel => exact ⟨1, by omega, rfl, .inl ⟨HOK2.out, rfl, by rw [HFT.out, HFF.out], by rw [HFT.out, HGG.out]⟩, quiet_drew HQU.out nq⟩
                          case measure => simp [intOf]; omega
                        · obtain ⟨y, hy⟩ : ∃ y, l[k - 1]? = some y := ⟨_, List.getElem?_eq_getElem (by have := HM.out; omega)⟩
                          obtain ⟨b2, o2, e2, -, q2, -⟩ := arr_int ((HL.out _ HB.out).keep (fun b _ => HQU.out.heap b)) hy
                          injection e2 with e2
                          injection e2 with e2 e3
                          subst e2 e3
                          have d2 : decide ((0 : Int) < (k : Int)) = true := by simp; omega
                          have d3 : decide (x ≤ y) = false := decide_eq_false (by have := HLA.out (by omega); rw [hy] at this; simp at this; omega)
                          have hsub : IntKind.i64.wrap ((k : Int) - 1) = ((k - 1 : Nat) : Int) := by rw [IntKind.wrap_i64]; omega
                          have hkm : k - 1 < m := by omega
                          have hk1 : 0 < k := by omega
                          clear hgood hx0 hxt hk0 hy
                          go_wp2_with fail
                          first | (refine wp_region_quiet_lit (by kernel_rfl) (by kernel_rfl) ?_; (repeat (go_big_quiet_step (fail))); refine wpQuiet_nil ?_; intro _ hw'; obtain ⟨nq, hw''⟩ := hw'; subst hw'')
                          clear hsub
                          go_wp2_with fail
                          go_roundw
                          case rel => exact ⟨k + 1, by omega, by go_num, .inl ⟨HOK2.out, rfl, by rw [HFT.out, HFF.out], by rw [HFT.out, HGG.out]⟩, quiet_drew HQU.out nq⟩
                          case measure => simp [intOf]; omega
                    · have HBAD : Hid (¬ okTo l m) := okTo.neg HX.out hgood hlt
                      by_cases hx0 : x < 0
                      · have d1 : decide (x < 0) = true := decide_eq_true hx0
                        clear hgood hx0
                        go_wp2_with fail
                        first | (refine wp_region_quiet_lit (by kernel_rfl) (by kernel_rfl) ?_; (repeat (go_big_quiet_step (fail))); refine wpQuiet_nil ?_; intro _ hw'; obtain ⟨nq, hw''⟩ := hw'; subst hw'')
                        go_wp2_with fail
                        go_roundw
                        case rel => exact ⟨k + 1, by omega, by go_num, .inr ⟨HBAD.out, rfl, F, G, rfl, rfl⟩, quiet_drew HQU.out nq⟩
                        case measure => simp [intOf]; omega
                      · have d1 : decide (x < 0) = false := decide_eq_false hx0
                        have hk0 : ¬ k = 0 := fun e => by have := HLZ.out e; omega
                        obtain ⟨y, hy⟩ : ∃ y, l[k - 1]? = some y := ⟨_, List.getElem?_eq_getElem (by have := HM.out; omega)⟩
                        obtain ⟨b2, o2, e2, -, q2, -⟩ := arr_int ((HL.out _ HB.out).keep (fun b _ => HQU.out.heap b)) hy
                        injection e2 with e2
                        injection e2 with e2 e3
                        subst e2 e3
                        have d2 : decide ((0 : Int) < (k : Int)) = true := by simp; omega
                        have d3 : decide (x ≤ y) = true := decide_eq_true (by have := HLA.out (by omega); rw [hy] at this; simp at this; omega)
                        have hsub : IntKind.i64.wrap ((k : Int) - 1) = ((k - 1 : Nat) : Int) := by rw [IntKind.wrap_i64]; omega
                        have hkm : k - 1 < m := by omega
                        have hk1 : 0 < k := by omega
                        clear hgood hx0 hk0 hy
                        go_wp2_with fail
                        first | (refine wp_region_quiet_lit (by kernel_rfl) (by kernel_rfl) ?_; (repeat (go_big_quiet_step (fail))); refine wpQuiet_nil ?_; intro _ hw'; obtain ⟨nq, hw''⟩ := hw'; subst hw'')
                        clear hsub
                        go_wp2_with fail
                        go_roundw
                        case rel => exact ⟨k + 1, by omega, by go_num, .inr ⟨HBAD.out, rfl, F, G, rfl, rfl⟩, quiet_drew HQU.out nq⟩
                        case measure => simp [intOf]; omega
                  · obtain rfl : k = m := by omega
                    have HOKN : Hid (okTo l l.length) := by show okTo _ _; rw [HM.out]; exact HOK.out
                    have HK1 := Lib.hid (own_quietL HK1.out HQU.out); have HK2 := Lib.hid (own_quietL HK2.out HQU.out); have HA1 := Lib.hid (own_quietL HA1.out HQU.out); have HA2 := Lib.hid (own_quietL HA2.out HQU.out); have HG1 := Lib.hid (own_quietL HG1.out HQU.out); have HG2 := Lib.hid (own_quietL HG2.out HQU.out); have HB := Lib.hid (HB.out.trans ((HQU.out.below _).mono HB.out.size))
                    cases hf : fromTo l t k with
                    | none =>
                      have HFR := Lib.hid (fromRes_none HOKN.out (t := t) (by rw [HM.out]; exact hf))
                      clear hf
                      go_wp2_with fail
                      refine (same_own HK1.out HK2.out).mono ?_
                      rintro e w5 ⟨rfl, hq5⟩
                      have HA1 := Lib.hid (own_quietL HA1.out hq5); have HA2 := Lib.hid (own_quietL HA2.out hq5); have HG1 := Lib.hid (own_quietL HG1.out hq5); have HG2 := Lib.hid (own_quietL HG2.out hq5); have HB := Lib.hid (HB.out.trans ((hq5.below _).mono HB.out.size))
                      clear hq5 HK1 HK2
                      go_wp2_with fail
                      refine (same_own HA1.out HA2.out).mono ?_
                      rintro e w6 ⟨rfl, hq6⟩
                      have HG1 := Lib.hid (own_quietL HG1.out hq6); have HG2 := Lib.hid (own_quietL HG2.out hq6); have HB := Lib.hid (HB.out.trans ((hq6.below _).mono HB.out.size))
                      clear hq6 HA1 HA2
                      go_wp2_with fail
                      refine (same_own HG1.out HG2.out).mono ?_
                      rintro e w7 ⟨rfl, hq7⟩
                      have HB := Lib.hid (HB.out.trans ((hq7.below _).mono HB.out.size))
                      clear hq7 HG1 HG2
                      rw [HFR.out]
                      go_wp2_with fail
                      go_ret
                      exact ⟨rfl, HB.out⟩
                    | some y =>
                      have HFR := Lib.hid (fromRes_some HOKN.out (t := t) (by rw [HM.out]; exact hf))
                      clear hf
                      go_wp2_with fail
                      refine (same_own HK1.out HK2.out).mono ?_
                      rintro e w5 ⟨rfl, hq5⟩
                      have HA1 := Lib.hid (own_quietL HA1.out hq5); have HA2 := Lib.hid (own_quietL HA2.out hq5); have HG1 := Lib.hid (own_quietL HG1.out hq5); have HG2 := Lib.hid (own_quietL HG2.out hq5); have HB := Lib.hid (HB.out.trans ((hq5.below _).mono HB.out.size))
                      clear hq5 HK1 HK2
                      go_wp2_with fail
                      refine (same_own HA1.out HA2.out).mono ?_
                      rintro e w6 ⟨rfl, hq6⟩
                      have HG1 := Lib.hid (own_quietL HG1.out hq6); have HG2 := Lib.hid (own_quietL HG2.out hq6); have HB := Lib.hid (HB.out.trans ((hq6.below _).mono HB.out.size))
                      clear hq6 HA1 HA2
                      go_wp2_with fail
                      refine (same_own HG1.out HG2.out).mono ?_
                      rintro e w7 ⟨rfl, hq7⟩
                      have HB := Lib.hid (HB.out.trans ((hq7.below _).mono HB.out.size))
                      clear hq7 HG1 HG2
                      rw [HFR.out]
                      go_wp2_with fail
                      go_ret
                      exact ⟨rfl, HB.out⟩
                · have HFR := Lib.hid (fromRes_bad (t := t) (by rw [HM.out]; exact hbad))
                  clear hbad
                  have HK1 := Lib.hid (own_quietL HK1.out HQU.out); have HK2 := Lib.hid (own_quietL HK2.out HQU.out); have HA1 := Lib.hid (own_quietL HA1.out HQU.out); have HA2 := Lib.hid (own_quietL HA2.out HQU.out); have HG1 := Lib.hid (own_quietL HG1.out HQU.out); have HG2 := Lib.hid (own_quietL HG2.out HQU.out); have HB := Lib.hid (HB.out.trans ((HQU.out.below _).mono HB.out.size))
                  by_cases hlt : k < m
                  · skip
                    go_wp2_with fail
                    refine (same_own HK1.out HK2.out).mono ?_
                    rintro e w5 ⟨rfl, hq5⟩
                    have HA1 := Lib.hid (own_quietL HA1.out hq5); have HA2 := Lib.hid (own_quietL HA2.out hq5); have HG1 := Lib.hid (own_quietL HG1.out hq5); have HG2 := Lib.hid (own_quietL HG2.out hq5); have HB := Lib.hid (HB.out.trans ((hq5.below _).mono HB.out.size))
                    clear hq5 HK1 HK2
                    go_wp2_with fail
                    refine (same_own HA1.out HA2.out).mono ?_
                    rintro e w6 ⟨rfl, hq6⟩
                    have HG1 := Lib.hid (own_quietL HG1.out hq6); have HG2 := Lib.hid (own_quietL HG2.out hq6); have HB := Lib.hid (HB.out.trans ((hq6.below _).mono HB.out.size))
                    clear hq6 HA1 HA2
                    go_wp2_with fail
                    refine (same_own HG1.out HG2.out).mono ?_
                    rintro e w7 ⟨rfl, hq7⟩
                    have HB := Lib.hid (HB.out.trans ((hq7.below _).mono HB.out.size))
                    clear hq7 HG1 HG2
                    rw [HFR.out]
                    go_wp2_with fail
                    go_ret
                    exact ⟨rfl, HB.out⟩
                  · skip
                    go_wp2_with fail
                    refine (same_own HK1.out HK2.out).mono ?_
                    rintro e w5 ⟨rfl, hq5⟩
                    have HA1 := Lib.hid (own_quietL HA1.out hq5); have HA2 := Lib.hid (own_quietL HA2.out hq5); have HG1 := Lib.hid (own_quietL HG1.out hq5); have HG2 := Lib.hid (own_quietL HG2.out hq5); have HB := Lib.hid (HB.out.trans ((hq5.below _).mono HB.out.size))
                    clear hq5 HK1 HK2
                    go_wp2_with fail
                    refine (same_own HA1.out HA2.out).mono ?_
                    rintro e w6 ⟨rfl, hq6⟩
                    have HG1 := Lib.hid (own_quietL HG1.out hq6); have HG2 := Lib.hid (own_quietL HG2.out hq6); have HB := Lib.hid (HB.out.trans ((hq6.below _).mono HB.out.size))
                    clear hq6 HA1 HA2
                    go_wp2_with fail
                    refine (same_own HG1.out HG2.out).mono ?_
                    rintro e w7 ⟨rfl, hq7⟩
                    have HB := Lib.hid (HB.out.trans ((hq7.below _).mono HB.out.size))
                    clear hq7 HG1 HG2
                    rw [HFR.out]
                    go_wp2_with fail
                    go_ret
                    exact ⟨rfl, HB.out⟩
        · rw [decide_eq_false he] at HS
          rw [HAR.out, if_neg he] at HA1 HG1 ⊢
          clear he HAR
          go_wp2_with fail
          refine HS.out.mono ?_
          rintro e wl ⟨rfl, hq⟩
          have HK1 := Lib.hid (own_quietL HK1.out hq); have HK2 := Lib.hid (own_quietL HK2.out hq); have HA1 := Lib.hid (own_quietL HA1.out hq); have HG1 := Lib.hid (own_quietL HG1.out hq); have HB := Lib.hid (HB.out.trans ((hq.below _).mono HB.out.size))
          have HA2 : Hid (Own (fun _ => False) wl 0 3 (.slice none 0 0) ([] : List Int)) := Own.nil _ _ _ _
          have HG2 := Lib.hid HA2.out
          clear hq HS
          go_wp2_with fail
          go_loopw [16, 20, 22, 23] (tlRel wl l m t) (fun _ _ _ i _ => m - (intOf i).toNat)
          case atStart => exact ⟨0, Nat.zero_le _, rfl, .inl ⟨(fun j x hj => by omega), rfl, rfl, rfl⟩, Quiet.refl _⟩
          case round =>
            obtain ⟨k, hk, rfl, hcase, hqu⟩ := hrel
            have HQU := Lib.hid hqu
            clear hqu
            rcases hcase with ⟨hok, rfl, rfl, rfl⟩ | ⟨hbad, rfl, f, b, rfl, rfl⟩
            · have HOK := Lib.hid hok
              clear hok
              by_cases hlt : k < m
              · obtain ⟨x, hx⟩ : ∃ x, l[k]? = some x := ⟨_, List.getElem?_eq_getElem (by have := HM.out; omega)⟩
                have HX := Lib.hid hx
                obtain ⟨b1, o1, rfl, -, q1, -⟩ := arr_int ((HL.out _ HB.out).keep (fun b _ => HQU.out.heap b)) hx
                have HFT := Lib.hid (fromTo_succ hx t)
                have HLA : Hid (0 < k → lastAt l k = (l[k - 1]?).getD 0) := fun h => by unfold lastAt; rw [if_neg (by omega)]
                have HLZ : Hid (k = 0 → lastAt l k = -1) := fun h => by unfold lastAt; rw [if_pos h]
                obtain ⟨F, hF⟩ : ∃ F, F = (fromTo l t k).getD 0 := ⟨_, rfl⟩
                obtain ⟨G, hG⟩ : ∃ G, G = (fromTo l t k).isSome := ⟨_, rfl⟩
                rw [← hF, ← hG]
                have HFF := Lib.hid hF; have HGG := Lib.hid hG
                clear hx hF hG
                by_cases hgood : lastAt l k < x
                · have HOK2 := Lib.hid (HOK.out.succ HX.out hgood)
                  have hx0 : ¬ x < 0 := fun h => by
                    have := HOK2.out.nonneg k x (by omega) HX.out
                    omega
                  have d1 : decide (x < 0) = false := decide_eq_false hx0
                  by_cases hxt : x ≤ t
                  · have d4 : decide (x ≤ t) = true := decide_eq_true hxt
                    rw [if_pos hxt] at HFT
                    by_cases hk0 : k = 0
                    · subst hk0
                      simp only [Nat.add_zero] at q1
                      clear hgood hx0 hxt
                      go_wp2_with fail
                      first | (refine wp_region_quiet_lit (by kernel_rfl) (by kernel_rfl) ?_; (repeat (go_big_quiet_step (fail))); refine wpQuiet_nil ?_; intro _ hw'; obtain ⟨nq, hw''⟩ := hw'; subst hw'')
                      go_wp2_with fail
                      go_roundw
                      case rel => exact ⟨1, by omega, rfl, .inl ⟨HOK2.out, rfl, by rw [HFT.out]; rfl, by rw [HFT.out]; rfl⟩, quiet_drew HQU.out nq⟩
                      case measure => simp [intOf]; omega
                    · obtain ⟨y, hy⟩ : ∃ y, l[k - 1]? = some y := ⟨_, List.getElem?_eq_getElem (by have := HM.out; omega)⟩
                      obtain ⟨b2, o2, e2, -, q2, -⟩ := arr_int ((HL.out _ HB.out).keep (fun b _ => HQU.out.heap b)) hy
                      injection e2 with e2
                      injection e2 with e2 e3
                      subst e2 e3
                      have d2 : decide ((0 : Int) < (k : Int)) = true := by simp; omega
                      have d3 : decide (x ≤ y) = false := decide_eq_false (by have := HLA.out (by omega); rw [hy] at this; simp at this; omega)
                      have hsub : IntKind.i64.wrap ((k : Int) - 1) = ((k - 1 : Nat) : Int) := by rw [IntKind.wrap_i64]; omega
                      have hkm : k - 1 < m := by omega
                      have hk1 : 0 < k := by omega
                      clear hgood hx0 hxt hk0 hy
                      go_wp2_with fail
                      first | (refine wp_region_quiet_lit (by kernel_rfl) (by kernel_rfl) ?_; (repeat (go_big_quiet_step (fail))); refine wpQuiet_nil ?_; intro _ hw'; obtain ⟨nq, hw''⟩ := hw'; subst hw'')
                      clear hsub
                      go_wp2_with fail
                      go_roundw
                      case rel => exact ⟨k + 1, by omega, by go_num, .inl ⟨HOK2.out, rfl, by rw [HFT.out]; rfl, by rw [HFT.out]; rfl⟩, quiet_drew HQU.out nq⟩
                      case measure => simp [intOf]; omega
                  · have d4 : decide (x ≤ t) = false := decide_eq_false hxt
                    rw [if_neg hxt] at HFT
                    by_cases hk0 : k = 0
                    · subst hk0
                      simp only [Nat.add_zero] at q1
                      clear hgood hx0 hxt
                      go_wp2_with fail
                      first | (refine wp_region_quiet_lit (by kernel_rfl) (by kernel_rfl) ?_; (repeat (go_big_quiet_step (fail))); refine wpQuiet_nil ?_; intro _ hw'; obtain ⟨nq, hw''⟩ := hw'; subst hw'')
                      go_wp2_with fail
                      go_roundw
                      case rel => exact ⟨1, by omega, rfl, .inl ⟨HOK2.out, rfl, by rw [HFT.out, HFF.out], by rw [HFT.out, HGG.out]⟩, quiet_drew HQU.out nq⟩
                      case measure => simp [intOf]; omega
                    · obtain ⟨y, hy⟩ : ∃ y, l[k - 1]? = some y := ⟨_, List.getElem?_eq_getElem (by have := HM.out; omega)⟩
                      obtain ⟨b2, o2, e2, -, q2, -⟩ := arr_int ((HL.out _ HB.out).keep (fun b _ => HQU.out.heap b)) hy
                      injection e2 with e2
                      injection e2 with e2 e3
                      subst e2 e3
                      have d2 : decide ((0 : Int) < (k : Int)) = true := by simp; omega
                      have d3 : decide (x ≤ y) = false := decide_eq_false (by have := HLA.out (by omega); rw [hy] at this; simp at this; omega)
                      have hsub : IntKind.i64.wrap ((k : Int) - 1) = ((k - 1 : Nat) : Int) := by rw [IntKind.wrap_i64]; omega
                      have hkm : k - 1 < m := by omega
                      have hk1 : 0 < k := by omega
                      clear hgood hx0 hxt hk0 hy
                      go_wp2_with fail
                      first | (refine wp_region_quiet_lit (by kernel_rfl) (by kernel_rfl) ?_; (repeat (go_big_quiet_step (fail))); refine wpQuiet_nil ?_; intro _ hw'; obtain ⟨nq, hw''⟩ := hw'; subst hw'')
                      clear hsub
                      go_wp2_with fail
                      go_roundw
                      case rel => exact ⟨k + 1, by omega, by go_num, .inl ⟨HOK2.out, rfl, by rw [HFT.out, HFF.out], by rw [HFT.out, HGG.out]⟩, quiet_drew HQU.out nq⟩
                      case measure => simp [intOf]; omega
                · have HBAD : Hid (¬ okTo l m) := okTo.neg HX.out hgood hlt
                  by_cases hx0 : x < 0
                  · have d1 : decide (x < 0) = true := decide_eq_true hx0
                    clear hgood hx0
                    go_wp2_with fail
                    first | (refine wp_region_quiet_lit (by kernel_rfl) (by kernel_rfl) ?_; (repeat (go_big_quiet_step (fail))); refine wpQuiet_nil ?_; intro _ hw'; obtain ⟨nq, hw''⟩ := hw'; subst hw'')
                    go_wp2_with fail
                    go_roundw
                    case rel => exact ⟨k + 1, by omega, by go_num, .inr ⟨HBAD.out, rfl, F, G, rfl, rfl⟩, quiet_drew HQU.out nq⟩
                    case measure => simp [intOf]; omega
                  · have d1 : decide (x < 0) = false := decide_eq_false hx0
                    have hk0 : ¬ k = 0 := fun e => by have := HLZ.out e; omega
                    obtain ⟨y, hy⟩ : ∃ y, l[k - 1]? = some y := ⟨_, List.getElem?_eq_getElem (by have := HM.out; omega)⟩
                    obtain ⟨b2, o2, e2, -, q2, -⟩ := arr_int ((HL.out _ HB.out).keep (fun b _ => HQU.out.heap b)) hy
                    injection e2 with e2
                    injection e2 with e2 e3
                    subst e2 e3
                    have d2 : decide ((0 : Int) < (k : Int)) = true := by simp; omega
                    have d3 : decide (x ≤ y) = true := decide_eq_true (by have := HLA.out (by omega); rw [hy] at this; simp at this; omega)
                    have hsub : IntKind.i64.wrap ((k : Int) - 1) = ((k - 1 : Nat) : Int) := by rw [IntKind.wrap_i64]; omega
                    have hkm : k - 1 < m := by omega
                    have hk1 : 0 < k := by omega
                    clear hgood hx0 hk0 hy
                    go_wp2_with fail
                    first | (refine wp_region_quiet_lit (by kernel_rfl) (by kernel_rfl) ?_; (repeat (go_big_quiet_step (fail))); refine wpQuiet_nil ?_; intro _ hw'; obtain ⟨nq, hw''⟩ := hw'; subst hw'')
                    clear hsub
                    go_wp2_with fail
                    go_roundw
                    case rel => exact ⟨k + 1, by omega, by go_num, .inr ⟨HBAD.out, rfl, F, G, rfl, rfl⟩, quiet_drew HQU.out nq⟩
                    case measure => simp [intOf]; omega
              · obtain rfl : k = m := by omega
                have HOKN : Hid (okTo l l.length) := by show okTo _ _; rw [HM.out]; exact HOK.out
                have HK1 := Lib.hid (own_quietL HK1.out HQU.out); have HK2 := Lib.hid (own_quietL HK2.out HQU.out); have HA1 := Lib.hid (own_quietL HA1.out HQU.out); have HA2 := Lib.hid (own_quietL HA2.out HQU.out); have HG1 := Lib.hid (own_quietL HG1.out HQU.out); have HG2 := Lib.hid (own_quietL HG2.out HQU.out); have HB := Lib.hid (HB.out.trans ((HQU.out.below _).mono HB.out.size))
                cases hf : fromTo l t k with
                | none =>
                  have HFR := Lib.hid (fromRes_none HOKN.out (t := t) (by rw [HM.out]; exact hf))
                  clear hf
                  go_wp2_with fail
                  refine (same_own HK1.out HK2.out).mono ?_
                  rintro e w5 ⟨rfl, hq5⟩
                  have HA1 := Lib.hid (own_quietL HA1.out hq5); have HA2 := Lib.hid (own_quietL HA2.out hq5); have HG1 := Lib.hid (own_quietL HG1.out hq5); have HG2 := Lib.hid (own_quietL HG2.out hq5); have HB := Lib.hid (HB.out.trans ((hq5.below _).mono HB.out.size))
                  clear hq5 HK1 HK2
                  go_wp2_with fail
                  refine (same_own HA1.out HA2.out).mono ?_
                  rintro e w6 ⟨rfl, hq6⟩
                  have HG1 := Lib.hid (own_quietL HG1.out hq6); have HG2 := Lib.hid (own_quietL HG2.out hq6); have HB := Lib.hid (HB.out.trans ((hq6.below _).mono HB.out.size))
                  clear hq6 HA1 HA2
                  go_wp2_with fail
                  refine (same_own HG1.out HG2.out).mono ?_
                  rintro e w7 ⟨rfl, hq7⟩
                  have HB := Lib.hid (HB.out.trans ((hq7.below _).mono HB.out.size))
                  clear hq7 HG1 HG2
                  rw [HFR.out]
                  go_wp2_with fail
                  go_ret
                  exact ⟨rfl, HB.out⟩
                | some y =>
                  have HFR := Lib.hid (fromRes_some HOKN.out (t := t) (by rw [HM.out]; exact hf))
                  clear hf
                  go_wp2_with fail
                  refine (same_own HK1.out HK2.out).mono ?_
                  rintro e w5 ⟨rfl, hq5⟩
                  have HA1 := Lib.hid (own_quietL HA1.out hq5); have HA2 := Lib.hid (own_quietL HA2.out hq5); have HG1 := Lib.hid (own_quietL HG1.out hq5); have HG2 := Lib.hid (own_quietL HG2.out hq5); have HB := Lib.hid (HB.out.trans ((hq5.below _).mono HB.out.size))
                  clear hq5 HK1 HK2
                  go_wp2_with fail
                  refine (same_own HA1.out HA2.out).mono ?_
                  rintro e w6 ⟨rfl, hq6⟩
                  have HG1 := Lib.hid (own_quietL HG1.out hq6); have HG2 := Lib.hid (own_quietL HG2.out hq6); have HB := Lib.hid (HB.out.trans ((hq6.below _).mono HB.out.size))
                  clear hq6 HA1 HA2
                  go_wp2_with fail
                  refine (same_own HG1.out HG2.out).mono ?_
                  rintro e w7 ⟨rfl, hq7⟩
                  have HB := Lib.hid (HB.out.trans ((hq7.below _).mono HB.out.size))
                  clear hq7 HG1 HG2
                  rw [HFR.out]
                  go_wp2_with fail
                  go_ret
                  exact ⟨rfl, HB.out⟩
            · have HFR := Lib.hid (fromRes_bad (t := t) (by rw [HM.out]; exact hbad))
              clear hbad
              have HK1 := Lib.hid (own_quietL HK1.out HQU.out); have HK2 := Lib.hid (own_quietL HK2.out HQU.out); have HA1 := Lib.hid (own_quietL HA1.out HQU.out); have HA2 := Lib.hid (own_quietL HA2.out HQU.out); have HG1 := Lib.hid (own_quietL HG1.out HQU.out); have HG2 := Lib.hid (own_quietL HG2.out HQU.out); have HB := Lib.hid (HB.out.trans ((HQU.out.below _).mono HB.out.size))
              by_cases hlt : k < m
              · skip
                go_wp2_with fail
                refine (same_own HK1.out HK2.out).mono ?_
                rintro e w5 ⟨rfl, hq5⟩
                have HA1 := Lib.hid (own_quietL HA1.out hq5); have HA2 := Lib.hid (own_quietL HA2.out hq5); have HG1 := Lib.hid (own_quietL HG1.out hq5); have HG2 := Lib.hid (own_quietL HG2.out hq5); have HB := Lib.hid (HB.out.trans ((hq5.below _).mono HB.out.size))
                clear hq5 HK1 HK2
                go_wp2_with fail
                refine (same_own HA1.out HA2.out).mono ?_
                rintro e w6 ⟨rfl, hq6⟩
                have HG1 := Lib.hid (own_quietL HG1.out hq6); have HG2 := Lib.hid (own_quietL HG2.out hq6); have HB := Lib.hid (HB.out.trans ((hq6.below _).mono HB.out.size))
                clear hq6 HA1 HA2
                go_wp2_with fail
                refine (same_own HG1.out HG2.out).mono ?_
                rintro e w7 ⟨rfl, hq7⟩
                have HB := Lib.hid (HB.out.trans ((hq7.below _).mono HB.out.size))
                clear hq7 HG1 HG2
                rw [HFR.out]
                go_wp2_with fail
                go_ret
                exact ⟨rfl, HB.out⟩
              · skip
                go_wp2_with fail
                refine (same_own HK1.out HK2.out).mono ?_
                rintro e w5 ⟨rfl, hq5⟩
                have HA1 := Lib.hid (own_quietL HA1.out hq5); have HA2 := Lib.hid (own_quietL HA2.out hq5); have HG1 := Lib.hid (own_quietL HG1.out hq5); have HG2 := Lib.hid (own_quietL HG2.out hq5); have HB := Lib.hid (HB.out.trans ((hq5.below _).mono HB.out.size))
                clear hq5 HK1 HK2
                go_wp2_with fail
                refine (same_own HA1.out HA2.out).mono ?_
                rintro e w6 ⟨rfl, hq6⟩
                have HG1 := Lib.hid (own_quietL HG1.out hq6); have HG2 := Lib.hid (own_quietL HG2.out hq6); have HB := Lib.hid (HB.out.trans ((hq6.below _).mono HB.out.size))
                clear hq6 HA1 HA2
                go_wp2_with fail
                refine (same_own HG1.out HG2.out).mono ?_
                rintro e w7 ⟨rfl, hq7⟩
                have HB := Lib.hid (HB.out.trans ((hq7.below _).mono HB.out.size))
                clear hq7 HG1 HG2
                rw [HFR.out]
                go_wp2_with fail
                go_ret
                exact ⟨rfl, HB.out⟩
end Go.Proofs.Ytffebdngmbbcoaa.thin
