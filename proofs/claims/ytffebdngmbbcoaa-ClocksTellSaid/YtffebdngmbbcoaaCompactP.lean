/- slices.Compact at pairs in a row of one's own, walked. -/
import Derived.Test.YtffebdngmbbcoaaClear
import Derived.Test.YtffebdngmbbcoaaSortPG
import Derived.Test.YtffebdngmbbcoaaLockPlain
import Derived.Test.YtffebdngmbbcoaaSlices
import Derived.Test.YtffebdngmbbcoaaApp
set_option linter.unusedVariables false
set_option linter.unusedSimpArgs false
namespace Go.Proofs.Ytffebdngmbbcoaa.lock
open Go.Bk Go.RowKit

def fresh (xs : List Api.DPair) (k : Nat) : Prop := ∀ j, j < k → 0 < j → xs[j]? ≠ xs[j - 1]?
theorem fresh.comp {xs : List Api.DPair} : ∀ {k : Nat}, fresh xs k → k ≤ xs.length → compactTo xs k = xs.take k
  | 0, _, _ => rfl
  | k + 1, h, hk => by
    obtain ⟨x, hx⟩ : ∃ x, xs[k]? = some x := ⟨_, List.getElem?_eq_getElem (by omega)⟩
    rw [compactTo_succ hx, fresh.comp (fun j hj => h j (by omega)) (by omega), if_neg, List.take_add_one, hx]
    · rfl
    · rintro ⟨h0, h1⟩
      exact h k (by omega) h0 (by rw [h1, hx])
theorem fresh.succ {xs : List Api.DPair} {k : Nat} {x y : Api.DPair} (h : fresh xs k) (hx : xs[k]? = some x) (hy : xs[k - 1]? = some y) (hne : x ≠ y) : fresh xs (k + 1) := fun j hj h0 => by
  by_cases e : j = k
  · subst e; rw [hx, hy]; intro e; exact hne (Option.some.inj e)
  · exact h j (by omega) h0
/-- The row under work: what is kept of the first j, and then as it was. -/
def mixed (xs : List Api.DPair) (j : Nat) : List Api.DPair := compactTo xs j ++ xs.drop (compactTo xs j).length
theorem mixed_len {xs : List Api.DPair} {j : Nat} (h : j ≤ xs.length) : (mixed xs j).length = xs.length := by
  have := compactTo_len xs j
  unfold mixed
  simp; omega
theorem mixed_get {xs : List Api.DPair} {j i : Nat} (h : (compactTo xs j).length ≤ i) : (mixed xs j)[i]? = xs[i]? := by
  unfold mixed
  rw [List.getElem?_append_right h, List.getElem?_drop]
  congr 1; omega
theorem mixed_skip {xs : List Api.DPair} {j : Nat} {x : Api.DPair} (h0 : 0 < j) (hx : xs[j]? = some x) (hy : xs[j - 1]? = some x) : compactTo xs (j + 1) = compactTo xs j := by rw [compactTo_succ hx, if_pos ⟨h0, hy⟩]
theorem mixed_keep {xs : List Api.DPair} {j : Nat} {x y : Api.DPair} (hx : xs[j]? = some x) (hy : xs[j - 1]? = some y) (hne : x ≠ y) : compactTo xs (j + 1) = compactTo xs j ++ [x] := by
  rw [compactTo_succ hx, if_neg]
  rintro ⟨-, h⟩
  rw [hy] at h
  exact hne (Option.some.inj h).symm
theorem mixed_set {xs : List Api.DPair} {j : Nat} {x y : Api.DPair} (hx : xs[j]? = some x) (hy : xs[j - 1]? = some y) (hne : x ≠ y) : (mixed xs j).set (compactTo xs j).length x = mixed xs (j + 1) := by
  have hl := compactTo_len xs j
  have hj : j < xs.length := (List.getElem?_eq_some_iff.1 hx).1
  unfold mixed
  rw [mixed_keep hx hy hne, List.set_append_right _ _ (Nat.le_refl _), Nat.sub_self, List.drop_eq_getElem_cons (by omega), List.set_cons_zero]
  simp
theorem mixed_start {xs : List Api.DPair} {k : Nat} {x : Api.DPair} (h : fresh xs k) (h1 : 0 < k) (hx : xs[k]? = some x) (hy : xs[k - 1]? = some x) : mixed xs (k + 1) = xs ∧ (compactTo xs (k + 1)).length = k := by
  have hk : k < xs.length := (List.getElem?_eq_some_iff.1 hx).1
  have e : compactTo xs (k + 1) = xs.take k := by rw [mixed_skip h1 hx hy, h.comp (by omega)]
  have e2 : (xs.take k).length = k := by simp; omega
  unfold mixed
  rw [e, e2]
  exact ⟨List.take_append_drop _ _, rfl⟩

theorem mixed_same {xs : List Api.DPair} {j : Nat} {x : Api.DPair} (h0 : 0 < j) (hx : xs[j]? = some x) (hy : xs[j - 1]? = some x) : mixed xs (j + 1) = mixed xs j := by unfold mixed; rw [mixed_skip h0 hx hy]
theorem grown_drewN {w w' : World} {r : Option Nat} (h : w.grownBy w' r) (n : Nat) : w.grownBy (w'.drewN n) r := ⟨h.os, h.tape, h.output, h.size, h.block⟩
theorem own_set_pair {w : World} {B g n c m : Nat} {zs : List Api.DPair} {z x : Api.DPair} (h : Own (fun _ => False) w B 58 (.slice (some ⟨g, 0, none⟩) n c) zs) (hz : zs[m]? = some z) (h1 : I64 x.I) (h2 : I64 x.J) :
    Own (fun _ => False) ((w.setCell ⟨g, m * 2, none⟩ (.int .i64 x.I)).setCell ⟨g, m * 2 + 1, none⟩ (.int .i64 x.J)) B 58 (.slice (some ⟨g, 0, none⟩) n c) (zs.set m x) := by
  have hm : m < zs.length := (List.getElem?_eq_some_iff.1 hz).1
  obtain ⟨g1, c1, cs, e1, -, -, -, ⟨c2, d2, ⟨rfl, -⟩, ⟨rfl, i2⟩, rfl⟩, -, -, hst⟩ := h.at hz
  injection e1 with e1
  injection e1 with e1
  injection e1 with e1
  subst e1
  have h3 := hst 0 (.int .i64 x.I) ⟨x.I, z.J⟩ (by decide) (fun _ h => h.elim) ⟨[_], [_], ⟨rfl, h1⟩, ⟨rfl, i2⟩, rfl⟩
  obtain ⟨g2, c3, cs, e1, -, -, -, ⟨c2, d2, ⟨rfl, -⟩, ⟨rfl, -⟩, rfl⟩, -, -, hst⟩ := h3.at (k := m) (x := ⟨x.I, z.J⟩) (List.getElem?_set_self hm)
  injection e1 with e1
  injection e1 with e1
  injection e1 with e1
  subst e1
  have h4 := hst 1 (.int .i64 x.J) x (by decide) (fun _ h => h.elim) ⟨[_], [_], ⟨rfl, h1⟩, ⟨rfl, h2⟩, rfl⟩
  rw [List.set_set] at h4
  exact h4
theorem grown_set2 {w w' : World} {g : Nat} (h : w.grownBy w' (some g)) (o p : Nat) (u v : Value) : w.grownBy ((w'.setCell ⟨g, o, none⟩ u).setCell ⟨g, p, none⟩ v) (some g) := grownBy_setCell (grownBy_setCell h o u) p v
def CompPost (w : World) (B : Nat) (v : Value) (ys : List Api.DPair) (e : Ending) (w' : World) : Prop :=
  ∃ v', e = .returned v' ∧ Own (fun _ => False) w' B 58 v' ys ∧ w.grownBy w' v.ownBlock
def c1Rel (w : World) (xs : List Api.DPair) (n : Nat) (v : Value) (w' : World) : Prop := ∃ k : Nat, 1 ≤ k ∧ k ≤ n ∧ v = .int .i64 k ∧ fresh xs k ∧ Quiet w w'
def c2Rel (w : World) (B g n c : Nat) (xs : List Api.DPair) (k0 : Nat) (v3 v5 : Value) (w' : World) : Prop :=
  ∃ k k2 : Nat, 1 ≤ k2 ∧ k0 + k2 ≤ n ∧ v3 = .int .i64 k ∧ v5 = .int .i64 k2 ∧ k = (compactTo xs (k0 + k2)).length ∧ k < k0 + k2 ∧ Own (fun _ => False) w' B 58 (.slice (some ⟨g, 0, none⟩) n c) (mixed xs (k0 + k2)) ∧ w.grownBy w' (some g)
theorem own_quiet {α : Type} [Rep α] {w w' : World} {B : Nat} {e : TypeId} {v : Value} {xs : List α} (h : Own (fun _ => False) w B e v xs) (hq : Quiet w w') : Own (fun _ => False) w' B e v xs := h.below (hq.below _) (fun _ h => h.elim)
set_option maxRecDepth 100000 in
set_option maxHeartbeats 2000000 in
theorem compact_any {w : World} {B : Nat} {v : Value} {xs : List Api.DPair} (hown : Own (fun _ => False) w B 58 v xs) (hlen : xs.length ≤ 1000000) :
    Calls Try.prog 55 #[v] w (CompPost w B v (compactTo xs xs.length)) := by
  obtain ⟨a, c, rfl, hc, hnil, harr⟩ := hown.arr
  have HO := Lib.hid hown
  obtain ⟨n, hn⟩ : ∃ n, xs.length = n := ⟨_, rfl⟩
  rw [hn] at hc hlen HO ⊢
  have HN := Lib.hid hn
  have HW := Lib.hid harr
  clear harr hown hn
  by_cases h2 : n < 2
  · have HC : Hid (compactTo xs n = xs) := by
      show _ = _
      rw [fresh.comp (fun j hj h0 => by omega) (by rw [HN.out]; exact Nat.le_refl _), ← HN.out, List.take_of_length_le (Nat.le_refl _)]
    go_enter Try.func55, Try.ntmps55
    go_wp2
    go_ret
    exact ⟨_, rfl, by rw [HC.out]; exact HO.out, World.grownBy.refl _ _⟩
  · obtain ⟨g, rfl⟩ : ∃ g, a = some ⟨g, 0, none⟩ := by
      obtain ⟨css, -, -, hl, ⟨h1, h3⟩ | ⟨g, cap, cur, he, -⟩⟩ := HO.out
      · rw [HN.out] at h3; omega
      · injection he with he; exact ⟨g, he⟩
    go_enter Try.func55, Try.ntmps55
    go_wp2
    go_loopw [3] (c1Rel w xs n) (fun i _ => n - (intOf i).toNat)
    case atStart => exact ⟨1, Nat.le_refl _, by omega, rfl, fun j hj h0 => by omega, Quiet.refl _⟩
    case round =>
      obtain ⟨k, h1, hk, rfl, hfr, hq⟩ := hrel
      have HF := Lib.hid hfr
      have HO2 := Lib.hid (own_quiet HO.out hq)
      have HQ := Lib.hid hq
      clear hfr hq
      by_cases hlt : k < n
      · obtain ⟨x, hx⟩ : ∃ x, xs[k]? = some x := ⟨_, List.getElem?_eq_getElem (by have := HN.out; omega)⟩
        obtain ⟨y, hy⟩ : ∃ y, xs[k - 1]? = some y := ⟨_, List.getElem?_eq_getElem (by have := HN.out; omega)⟩
        obtain ⟨a2, c2, e2, -, -, harr⟩ := HO2.out.arr
        obtain rfl : a2 = some ⟨g, 0, none⟩ := by injection e2 with e2; exact e2.symm
        clear e2
        obtain ⟨b1, o1, e1, -, q1, q2, i1, i2⟩ := api_DPair_elem harr hx
        injection e1 with e1
        injection e1 with e1 e5
        subst e1 e5
        obtain ⟨b1, o1, e1, -, p1, p2, j1, j2⟩ := api_DPair_elem harr hy
        injection e1 with e1
        injection e1 with e1 e5
        subst e1 e5
        have HX := Lib.hid hx; have HY := Lib.hid hy
        have hsub : IntKind.i64.wrap ((k : Int) - 1) = ((k - 1 : Nat) : Int) := by rw [IntKind.wrap_i64]; omega
        have hkn : k - 1 < n := by omega
        simp only [Nat.zero_add] at q1 q2 p1 p2
        clear hx hy harr
        by_cases hxy : x = y
        · subst hxy
          go_wp2_with fail
          first | (refine wp_region_quiet_lit (by kernel_rfl) (by kernel_rfl) ?_; (repeat (go_big_quiet_step (fail))); refine wpQuiet_nil ?_; intro _ hw'; obtain ⟨nq, hw''⟩ := hw'; subst hw'')
          clear hsub q1 q2 p1 p2
          go_wp2_with fail
          have HS := Lib.hid (mixed_start HF.out h1 HX.out HY.out)
          have HO3 : Hid (Own (fun _ => False) (wr.drewN nq) B 58 (.slice (some ⟨g, 0, none⟩) n c) xs) := own_quiet HO2.out ⟨nq, rfl⟩
          have HG3 : Hid (w.grownBy (wr.drewN nq) (some g)) := by obtain ⟨m, rfl⟩ := HQ.out; exact ⟨rfl, rfl, rfl, Nat.le_refl _, fun _ _ _ => rfl⟩
          clear HO2 HO
          go_loopw [3, 5] (c2Rel w B g n c xs k) (fun _ i _ => n - k - (intOf i).toNat)
          case atStart => exact ⟨k, 1, Nat.le_refl _, by omega, rfl, rfl, HS.out.2.symm, by omega, by rw [HS.out.1]; exact HO3.out, HG3.out⟩
          case round =>
            clear HO3 HG3 HS HX HY i1 i2 j1 j2
            obtain ⟨m, k2, hk2, hkn2, rfl, rfl, hm, hml, hown, hgr⟩ := hrel
            have HM := Lib.hid hm; have HO2 := Lib.hid hown; have HG := Lib.hid hgr
            clear hm hown hgr
            by_cases hlt2 : k + k2 < n
            · obtain ⟨x2, hx⟩ : ∃ x, xs[k + k2]? = some x := ⟨_, List.getElem?_eq_getElem (by have := HN.out; omega)⟩
              obtain ⟨y2, hy⟩ : ∃ x, xs[k + k2 - 1]? = some x := ⟨_, List.getElem?_eq_getElem (by have := HN.out; omega)⟩
              obtain ⟨z2, hz⟩ : ∃ x, (mixed xs (k + k2))[m]? = some x := ⟨_, List.getElem?_eq_getElem (by rw [mixed_len (by rw [HN.out]; omega), HN.out]; omega)⟩
              obtain ⟨a2, c2, e2, -, -, harr⟩ := HO2.out.arr
              obtain rfl : a2 = some ⟨g, 0, none⟩ := by injection e2 with e2; exact e2.symm
              clear e2
              obtain ⟨b1, o1, e1, -, q1, q2, i1, i2⟩ := api_DPair_elem harr (x := x2) (k := k + k2) (by rw [mixed_get (by rw [← HM.out]; omega)]; exact hx)
              injection e1 with e1
              injection e1 with e1 e5
              subst e1 e5
              obtain ⟨b1, o1, e1, -, p1, p2, j1, j2⟩ := api_DPair_elem harr (x := y2) (k := k + k2 - 1) (by rw [mixed_get (by rw [← HM.out]; omega)]; exact hy)
              injection e1 with e1
              injection e1 with e1 e5
              subst e1 e5
              obtain ⟨b1, o1, e1, -, r1, r2, -, -⟩ := api_DPair_elem harr (x := z2) (k := m) hz
              injection e1 with e1
              injection e1 with e1 e5
              subst e1 e5
              rw [show 0 + m * 2 = m * 2 by omega] at r1 r2
              have hsub : IntKind.i64.wrap ((k2 : Int) - 1) = ((k2 - 1 : Nat) : Int) := by rw [IntKind.wrap_i64]; omega
              rw [show 0 + (k + k2) * 2 = k * 2 + k2 * 2 by omega] at q1 q2
              rw [show 0 + (k + k2 - 1) * 2 = k * 2 + (k2 - 1) * 2 by omega] at p1 p2
              have HX := Lib.hid hx; have HY := Lib.hid hy; have HZ := Lib.hid hz
              have hd1 : k2 < n - k := by omega
              have hd2 : k2 - 1 < n - k := by omega
              clear hx hy hz harr
              by_cases hxy : x2 = y2
              · subst hxy
                go_wp2_with fail
                first | (refine wp_region_quiet_lit (by kernel_rfl) (by kernel_rfl) ?_; (repeat (go_big_quiet_step (fail))); refine wpQuiet_nil ?_; intro _ hw'; obtain ⟨nq, hw''⟩ := hw'; subst hw'')
                clear hsub q1 q2 p1 p2 r1 r2
                go_wp2_with fail
                go_roundw
                case rel => exact ⟨m, k2 + 1, by omega, by omega, rfl, by go_num, by rw [← Nat.add_assoc, mixed_skip (by omega) HX.out HY.out]; exact HM.out, by omega, by rw [← Nat.add_assoc, mixed_same (by omega) HX.out HY.out]; exact own_quiet HO2.out ⟨nq, rfl⟩, grown_drewN HG.out nq⟩
                case measure => simp [intOf]; omega
              · have HNE := Lib.hid hxy
                have hcase : (x2.I == y2.I) = false ∨ (x2.I == y2.I) = true ∧ (x2.J == y2.J) = false := by
                  by_cases e1 : x2.I = y2.I
                  · by_cases e2 : x2.J = y2.J
                    · exact absurd (by cases x2; cases y2; simp_all) hxy
                    · exact .inr ⟨by simpa using e1, by simpa using e2⟩
                  · exact .inl (by simpa using e1)
                have fr : ∀ j, wr.frozen? ⟨g, j, none⟩ = false := by
                  obtain ⟨g2, cap, cs, e1, -, -, -, -, -, hf, -⟩ := HO2.out.at HZ.out
                  injection e1 with e1
                  injection e1 with e1
                  injection e1 with e1
                  subst e1
                  exact hf
                clear hxy
                rcases hcase with hd | ⟨hd, hd9⟩
                all_goals
                  go_wp2_with fail
                  first | (refine wp_region_quiet_lit (by kernel_rfl) (by kernel_rfl) ?_; (repeat (go_big_quiet_step (fail))); refine wpQuiet_nil ?_; intro _ hw'; obtain ⟨nq, hw''⟩ := hw'; subst hw'')
                  clear hsub
                  go_wp2_with fail
                  go_roundw
                  case rel =>
                    refine ⟨m + 1, k2 + 1, by omega, by omega, by go_num, by go_num, by rw [← Nat.add_assoc, mixed_keep HX.out HY.out HNE.out, List.length_append, ← HM.out]; rfl, by omega, ?_, grown_set2 (grown_drewN HG.out nq) _ _ _ _⟩
                    rw [← Nat.add_assoc, ← mixed_set HX.out HY.out HNE.out, ← HM.out]
                    exact own_set_pair (own_quiet HO2.out ⟨nq, rfl⟩) HZ.out i1 i2
                  case measure => simp [intOf]; omega
            · have hend : k + k2 = n := by omega
              have HCL : ∀ ty, (Builtin.clear_ #[51] ty #[.slice (some ⟨g, m * 2, none⟩) (n - m) (c - m)]).run Try.prog wr = .ok (.tuple #[]) (wr.setCells g (m * 2) (Builtin.zeroCells (Value.agg #[.int .i64 0, .int .i64 0]).cells (n - m)).toList) := by
                intro ty
                obtain ⟨cs, hb, hl, -, -, -, -, -, -⟩ := own_blkF HO2.out
                have hz : (Builtin.zeroCells (Value.agg #[.int .i64 0, .int .i64 0]).cells (n - m)).toList.length = (n - m) * 2 := by simp [Builtin.zeroCells, Value.cells]; try omega
                refine run_clear_row wr _ _ ty _ Try.underlying51 (fun w => by kernel_rfl) g (m * 2) (n - m) _ (by omega) rfl ?_ (fun j hj => ?_) (fun j hj => hb.frozen _)
                · refine zeroCells_one (fun v hv => ?_)
                  simp [Value.cells] at hv
                  subst hv
                  rfl
                · rw [hz] at hj
                  rw [hb.cell (v := cs[m * 2 + j]'(by rw [hl]; show _ < c * 2; omega)) (List.getElem?_eq_getElem _)]
                  rfl
              obtain ⟨vs, hvs⟩ : ∃ vs, vs = (Builtin.zeroCells (Value.agg #[.int .i64 0, .int .i64 0]).cells (n - m)).toList := ⟨_, rfl⟩
              have HVL : Hid (vs.length = (n - m) * 2) := by show _ = _; rw [hvs]; simp [Builtin.zeroCells, Value.cells]; try omega
              rw [← hvs] at HCL
              clear hvs
              go_wp2_with fail
              go_ret
              have HE : compactTo xs n = (mixed xs (k + k2)).take m := by
                unfold mixed
                rw [hend, List.take_append_of_le_length (by rw [← hend, ← HM.out]; exact Nat.le_refl _), List.take_of_length_le (by rw [← hend, ← HM.out]; exact Nat.le_refl _)]
              refine ⟨_, rfl, by rw [HE]; exact own_cut_set HO2.out (by omega) (by rw [HVL.out]; show m * 2 + _ ≤ c * 2; omega), grownBy_setCells _ _ _ HG.out⟩
        · have HNE := Lib.hid hxy
          have hcase : (x.I == y.I) = false ∨ (x.I == y.I) = true ∧ (x.J == y.J) = false := by
            by_cases e1 : x.I = y.I
            · by_cases e2 : x.J = y.J
              · exact absurd (by cases x; cases y; simp_all) hxy
              · exact .inr ⟨by simpa using e1, by simpa using e2⟩
            · exact .inl (by simpa using e1)
          clear hxy
          rcases hcase with hd | ⟨hd, hd9⟩
          all_goals
            go_wp2_with fail
            first | (refine wp_region_quiet_lit (by kernel_rfl) (by kernel_rfl) ?_; (repeat (go_big_quiet_step (fail))); refine wpQuiet_nil ?_; intro _ hw'; obtain ⟨nq, hw''⟩ := hw'; subst hw'')
            clear hsub
            go_wp2_with fail
            go_roundw
            case rel => exact ⟨k + 1, by omega, by omega, by go_num, HF.out.succ HX.out HY.out HNE.out, HQ.out.trans ⟨nq, rfl⟩⟩
            case measure => simp [intOf]; omega
      · obtain rfl : k = n := by omega
        go_wp2
        go_ret
        refine ⟨_, rfl, by rw [HF.out.comp (by rw [HN.out]; exact Nat.le_refl _), ← HN.out, List.take_of_length_le (Nat.le_refl _), HN.out]; exact HO2.out, ?_⟩
        obtain ⟨m, rfl⟩ := HQ.out
        exact ⟨rfl, rfl, rfl, Nat.le_refl _, fun _ _ _ => rfl⟩
end Go.Proofs.Ytffebdngmbbcoaa.lock
