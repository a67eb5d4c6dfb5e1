/- The document's answer to Top, walked. -/
import Derived.Test.YtimlhjjdaggiiaaWalkA
set_option linter.unusedVariables false
set_option linter.unusedSimpArgs false
namespace Go.Proofs.Ytimlhjjdaggiiaa.walk
open Go.Bk Go.RowKit

def wtopRel (w : World) (l : List Api.DMark) (x : Api.DMark) (i : Nat) (v : Value) (w' : World) : Prop :=
  ∃ k : Nat, k ≤ i ∧ v = .int .i64 k ∧ (∀ j, j < k → ¬ topOk l x i j) ∧ Quiet w w'

def wtopIn (w : World) (l : List Api.DMark) (x y : Api.DMark) (i k : Nat) (ok v : Value) (w' : World) : Prop :=
  ∃ (j : Nat) (b : Bool), k ≤ j ∧ j ≤ i + 1 ∧ v = .int .i64 j ∧ ok = .bool b ∧ (b = true ↔ (y.Thread = x.Thread ∧ ∀ t z, k ≤ t → t < j → l[t]? = some z → z.Thread = x.Thread → x.Deep ≤ z.Deep)) ∧ Quiet w w'

set_option maxRecDepth 100000 in
set_option maxHeartbeats 1000000 in
theorem wtop_any {S : Nat → Prop} {w : World} {a : Option Addr} {c : Nat} {l : List Api.DMark} {n : Nat} {x : Api.DMark} (h : Arr S w a l) (hS : ∀ b, S b → b < w.heap.size) (hx : l[n]? = some x) :
    Calls Try.prog 34 #[.slice a l.length c, .int .i64 (n : Int)] w fun e w' => (∃ k : Nat, e = .returned (.int .i64 k) ∧ topOk l x n k ∧ ∀ j, j < k → ¬ topOk l x n j) ∧ Quiet w w' := by
  have hm := h.small
  unfold maxLen at hm
  have HX := Lib.hid hx
  have hn : n < l.length := (List.getElem?_eq_some_iff.1 hx).1
  clear hx
  go_enter Try.func34, Try.ntmps34
  go_wp2
  go_loopw [5] (wtopRel w l x n) (fun i _ => n + 1 - (intOf i).toNat)
  case atStart => exact ⟨0, Nat.zero_le _, rfl, fun j hj => by omega, Quiet.refl _⟩
  case round =>
    obtain ⟨k, hk, rfl, hno, hq⟩ := hrel
    have HQ := Lib.hid hq; have HN := Lib.hid hno
    have h' := h.keep (w' := wr) (fun b _ => hq.heap b)
    clear hq hno
    have hkl : k < l.length := by omega
    obtain ⟨y, hy⟩ : ∃ y, l[k]? = some y := ⟨_, List.getElem?_eq_getElem hkl⟩
    have HY := Lib.hid hy
    obtain ⟨b, off, rfl, hSb, p1, p2, p3, -⟩ := api_DMark_elem h' HX.out
    obtain ⟨b', off', he', -, q1, q2, q3, -⟩ := api_DMark_elem h' HY.out
    obtain ⟨rfl, rfl⟩ : b = b' ∧ off = off' := by simpa using he'
    clear hy he'
    have hkn : ¬ n < k := by omega
    obtain ⟨bt, hbt⟩ : ∃ bt : Bool, (y.Thread == x.Thread) = bt := ⟨_, rfl⟩
    have HBT : Hid (bt = true ↔ y.Thread = x.Thread) := by show _ ↔ _; rw [← hbt]; simp
    go_wp2
    first | (refine wp_region_quiet_lit (by kernel_rfl) (by kernel_rfl) ?_; (repeat (go_big_quiet_step (fail))); refine wpQuiet_nil ?_; intro _ hw'; obtain ⟨nq, hw''⟩ := hw'; subst hw'')
    go_wp2
    have HQ2 := Lib.hid (HQ.out.more nq)
    have h2 : Arr S (wr.drewN nq) (some ⟨b, off, none⟩) l := Arr.keep (w := wr) (fun b _ => rfl) h'
    clear hbt p1 p2 p3 q1 q2 q3 h' HQ
    generalize wr.drewN nq = wo at HQ2 h2 ⊢
    go_loopw [6, 7] (wtopIn w l x y n k) (fun _ j _ => n + 1 - (intOf j).toNat)
    case atStart => exact ⟨k, bt, by omega, by omega, rfl, rfl, by rw [HBT.out]; exact ⟨fun h => ⟨h, fun t z h1 h2 => by omega⟩, fun h => h.1⟩, HQ2.out⟩
    case round =>
      obtain ⟨j, bj, hj1, hj2, rfl, rfl, hbj, hq⟩ := hrel
      have HQ := Lib.hid hq; have HB := Lib.hid hbj
      have h' := h.keep (w' := wr) (fun b _ => hq.heap b)
      clear hq hbj h2
      by_cases hlt : j ≤ n
      · obtain ⟨z, hz⟩ : ∃ z, l[j]? = some z := ⟨_, List.getElem?_eq_getElem (by omega)⟩
        have HZ := Lib.hid hz
        obtain ⟨b', off', he', -, p1, p2, p3, -⟩ := api_DMark_elem h' HX.out
        obtain ⟨rfl, rfl⟩ : b = b' ∧ off = off' := by simpa using he'
        obtain ⟨b', off', he', -, q1, q2, q3, -⟩ := api_DMark_elem h' HZ.out
        obtain ⟨rfl, rfl⟩ : b = b' ∧ off = off' := by simpa using he'
        clear hz he' h'
        by_cases ht : z.Thread = x.Thread
        · have hb1 : (z.Thread == x.Thread) = true := by simp [ht]
          have HTT := Lib.hid ht
          clear ht
          by_cases hd : z.Deep < x.Deep
          · have hb2 : decide (z.Deep < x.Deep) = true := by simp [hd]
            go_wp2
            first | (refine wp_region_quiet_lit (by kernel_rfl) (by kernel_rfl) ?_; (repeat (go_big_quiet_step (fail))); refine wpQuiet_nil ?_; intro _ hw'; obtain ⟨nq, hw''⟩ := hw'; subst hw'')
            go_wp2
            go_roundw
            case rel => exact ⟨j + 1, false, by omega, by omega, by go_num, rfl, ⟨fun h => by simp at h, fun h => by have := h.2 j z hj1 (by omega) HZ.out HTT.out; omega⟩, HQ.out.more _⟩
            case measure => simp [intOf]; omega
          · have hb2 : decide (z.Deep < x.Deep) = false := by simp; omega
            go_wp2
            first | (refine wp_region_quiet_lit (by kernel_rfl) (by kernel_rfl) ?_; (repeat (go_big_quiet_step (fail))); refine wpQuiet_nil ?_; intro _ hw'; obtain ⟨nq, hw''⟩ := hw'; subst hw'')
            go_wp2
            go_roundw
            case rel => exact ⟨j + 1, bj, by omega, by omega, by go_num, rfl, HB.out.trans ⟨fun h => ⟨h.1, fun t u h1 h2 hu hut => by
              by_cases htj : t = j
              · subst htj
                obtain rfl := Option.some.inj (HZ.out.symm.trans hu)
                omega
              · exact h.2 t u h1 (by omega) hu hut⟩, fun h => ⟨h.1, fun t u h1 h2 hu hut => h.2 t u h1 (by omega) hu hut⟩⟩, HQ.out.more _⟩
            case measure => simp [intOf]; omega
        · have hb1 : (z.Thread == x.Thread) = false := by simp [ht]
          have HTT := Lib.hid ht
          clear ht
          go_wp2
          first | (refine wp_region_quiet_lit (by kernel_rfl) (by kernel_rfl) ?_; (repeat (go_big_quiet_step (fail))); refine wpQuiet_nil ?_; intro _ hw'; obtain ⟨nq, hw''⟩ := hw'; subst hw'')
          go_wp2
          go_roundw
          case rel => exact ⟨j + 1, bj, by omega, by omega, by go_num, rfl, HB.out.trans ⟨fun h => ⟨h.1, fun t u h1 h2 hu hut => by
              by_cases htj : t = j
              · subst htj
                obtain rfl := Option.some.inj (HZ.out.symm.trans hu)
                exact absurd hut HTT.out
              · exact h.2 t u h1 (by omega) hu hut⟩, fun h => ⟨h.1, fun t u h1 h2 hu hut => h.2 t u h1 (by omega) hu hut⟩⟩, HQ.out.more _⟩
          case measure => simp [intOf]; omega
      · cases bj with
        | true =>
          have hok := HB.out.1 rfl
          have HOK : Hid (topOk l x n k) := ⟨⟨y, HY.out, hok.1⟩, fun t z h1 h2 hz hzt => hok.2 t z h1 (by omega) hz hzt⟩
          clear hok
          go_wp2
          go_ret
          exact ⟨⟨k, rfl, HOK.out, HN.out⟩, HQ.out⟩
        | false =>
          have HOK : Hid (¬ topOk l x n k) := fun h => by
            obtain ⟨⟨y', hy', hyt⟩, h2⟩ := h
            obtain rfl := Option.some.inj (HY.out.symm.trans hy')
            have := HB.out.2 ⟨hyt, fun t z h1 h3 hz hzt => h2 t z h1 (by omega) hz hzt⟩
            cases this
          have hkn2 : k ≠ n := fun e => by
            have := HOK.out
            rw [e] at this
            exact this (topOk_self HX.out)
          have HKN := Lib.hid hkn2
          have hkn3 : k < n := by omega
          clear hkn2
          go_wp2
          go_roundw
          case rel => exact ⟨k + 1, by omega, by go_num, fun j hj => by
            by_cases hjk : j = k
            · rw [hjk]; exact HOK.out
            · exact HN.out j (by omega), HQ.out⟩
          case measure => simp [intOf]; omega
end Go.Proofs.Ytimlhjjdaggiiaa.walk
