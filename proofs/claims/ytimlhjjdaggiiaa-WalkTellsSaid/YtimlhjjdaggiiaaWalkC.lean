/- Top and the document's answer to it, walked. -/
import Derived.Test.YtimlhjjdaggiiaaWalkA
set_option linter.unusedVariables false
set_option linter.unusedSimpArgs false
namespace Go.Proofs.Ytimlhjjdaggiiaa.walk
open Go.Bk Go.RowKit

def topRel (w : World) (l : List Api.DMark) (x : Api.DMark) (i : Nat) (t v : Value) (w' : World) : Prop :=
  ∃ k m : Nat, k ≤ m ∧ m ≤ i ∧ v = .int .i64 ((k : Int) - 1) ∧ t = .int .i64 m ∧ topOk l x i m ∧ (∀ j y, k ≤ j → j ≤ i → l[j]? = some y → y.Thread = x.Thread → x.Deep ≤ y.Deep) ∧ (∀ j y, k ≤ j → j < m → l[j]? = some y → y.Thread ≠ x.Thread) ∧ Quiet w w'

/-- What Top hands back. -/
def TellsTop (w : World) (l : List Api.DMark) (i : Int) (e : Ending) (w' : World) : Prop :=
  (∃ t, e = .returned (.tuple #[.int .i64 t, .int .i64 (errOf l.length i 1)]) ∧ TopIs l i t) ∧ Quiet w w'

set_option maxRecDepth 100000 in
theorem top_any {S : Nat → Prop} {w : World} {a : Option Addr} {c : Nat} {l : List Api.DMark} {i : Int} (h : Arr S w a l) (hS : ∀ b, S b → b < w.heap.size) :
    Calls Try.prog 31 #[.slice a l.length c, .int .i64 i] w (TellsTop w l i) := by
  have hm := h.small
  unfold maxLen at hm
  by_cases he : errOf l.length i 1 = 0
  · obtain ⟨e1, e2, e3, -, -⟩ := errOf_zero he
    have HE := Lib.hid he
    obtain ⟨n, rfl⟩ : ∃ n : Nat, i = n := ⟨i.toNat, by omega⟩
    have hn : n < l.length := by omega
    obtain ⟨x, hx⟩ : ∃ x, l[n]? = some x := ⟨_, List.getElem?_eq_getElem hn⟩
    have HX := Lib.hid hx
    go_enter Try.func31, Try.ntmps31
    go_wp2_with (go_at_call 84; (with_reducible refine (check_any h).mono ?_); rintro e w' ⟨rfl, rfl⟩; rw [he])
    clear he
    go_loopw [7, 8] (topRel w l x n) (fun _ i _ => (intOf i + 1).toNat)
    case atStart => exact ⟨n, n, by omega, by omega, rfl, rfl, topOk_self HX.out, fun j y h1 h2 hy _ => by
      obtain rfl : j = n := by omega
      obtain rfl := Option.some.inj (hx.symm.trans hy)
      omega, fun j y h1 h2 => by omega, Quiet.refl _⟩
    case round =>
      obtain ⟨k', m, hk1, hk2, rfl, rfl, htop, hno, hth, hq⟩ := hrel
      have HQ := Lib.hid hq; have HN := Lib.hid hno; have HT := Lib.hid htop; have HH := Lib.hid hth
      have h' := h.keep (w' := wr) (fun b _ => hq.heap b)
      clear hq hno htop hth hx
      by_cases hlt : 0 < k'
      · obtain ⟨k, rfl⟩ : ∃ k, k' = k + 1 := ⟨k' - 1, by omega⟩
        have hkk : (((k + 1 : Nat) : Int) - 1) = (k : Int) := by omega
        rw [hkk]
        clear hkk
        have hkl : k < l.length := by omega
        obtain ⟨y, hy⟩ : ∃ y, l[k]? = some y := ⟨_, List.getElem?_eq_getElem hkl⟩
        have HY := Lib.hid hy
        obtain ⟨b, off, rfl, hSb, p1, p2, p3, -⟩ := api_DMark_elem h' HX.out
        obtain ⟨b', off', he', -, q1, q2, q3, -⟩ := api_DMark_elem h' HY.out
        obtain ⟨rfl, rfl⟩ : b = b' ∧ off = off' := by simpa using he'
        clear hy he' h'
        by_cases ht : y.Thread = x.Thread
        · have hb1 : (y.Thread != x.Thread) = false := by simp [ht]
          have HTT := Lib.hid ht
          clear ht
          by_cases hd : y.Deep < x.Deep
          · have hb2 : decide (y.Deep < x.Deep) = true := by simp [hd]
            go_wp2
            first | (refine wp_region_quiet_lit (by kernel_rfl) (by kernel_rfl) ?_; (repeat (go_big_quiet_step (fail))); refine wpQuiet_nil ?_; intro _ hw'; obtain ⟨nq, hw''⟩ := hw'; subst hw'')
            go_wp2
            first | (refine wp_region_quiet_lit (by kernel_rfl) (by kernel_rfl) ?_; (repeat (go_big_quiet_step (fail))); refine wpQuiet_nil ?_; intro _ hw'; obtain ⟨nq, hw''⟩ := hw'; subst hw'')
            go_wp2
            go_ret2
            exact ⟨⟨m, by rw [HE.out]; rfl, fun h => absurd HE.out h, fun _ => ⟨x, HX.out, m, rfl, HT.out, fun j hj ho => by
              by_cases hjk : j ≤ k
              · have := ho.2 k y hjk (by show k ≤ (n : Int).toNat; simp; omega) HY.out HTT.out
                omega
              · obtain ⟨⟨z, hz, hzt⟩, _⟩ := ho
                exact HH.out j z (by omega) hj hz hzt⟩⟩, by first | exact (HQ.out.more _).more _ | exact HQ.out.more _⟩
          · have hb2 : decide (y.Deep < x.Deep) = false := by simp; omega
            go_wp2
            first | (refine wp_region_quiet_lit (by kernel_rfl) (by kernel_rfl) ?_; (repeat (go_big_quiet_step (fail))); refine wpQuiet_nil ?_; intro _ hw'; obtain ⟨nq, hw''⟩ := hw'; subst hw'')
            go_wp2
            first | (refine wp_region_quiet_lit (by kernel_rfl) (by kernel_rfl) ?_; (repeat (go_big_quiet_step (fail))); refine wpQuiet_nil ?_; intro _ hw'; obtain ⟨nq, hw''⟩ := hw'; subst hw'')
            go_wp2
            go_roundw
            case rel =>
              have hno' : ∀ j z, k ≤ j → j ≤ n → l[j]? = some z → z.Thread = x.Thread → x.Deep ≤ z.Deep := fun j z h1 h2 hz hzt => by
                by_cases hj : j = k
                · subst hj
                  obtain rfl := Option.some.inj (HY.out.symm.trans hz)
                  omega
                · exact HN.out j z (by omega) h2 hz hzt
              exact ⟨k, k, by omega, by omega, rfl, rfl, ⟨⟨y, HY.out, HTT.out⟩, hno'⟩, hno', fun j z h1 h2 => by omega, by first | exact (HQ.out.more _).more _ | exact HQ.out.more _⟩
            case measure => simp [intOf]
        · have hb1 : (y.Thread != x.Thread) = true := by simp [ht]
          have HTT := Lib.hid ht
          clear ht
          go_wp2
          first | (refine wp_region_quiet_lit (by kernel_rfl) (by kernel_rfl) ?_; (repeat (go_big_quiet_step (fail))); refine wpQuiet_nil ?_; intro _ hw'; obtain ⟨nq, hw''⟩ := hw'; subst hw'')
          go_wp2
          go_roundw
          case rel => exact ⟨k, m, by omega, by omega, rfl, rfl, HT.out, fun j z h1 h2 hz hzt => by
                by_cases hj : j = k
                · subst hj
                  obtain rfl := Option.some.inj (HY.out.symm.trans hz)
                  exact absurd hzt HTT.out
                · exact HN.out j z (by omega) h2 hz hzt, fun j z h1 h2 hz => by
                by_cases hj : j = k
                · subst hj
                  obtain rfl := Option.some.inj (HY.out.symm.trans hz)
                  exact HTT.out
                · exact HH.out j z (by omega) h2 hz, HQ.out.more _⟩
          case measure => simp [intOf]
      · obtain rfl : k' = 0 := by omega
        go_wp2
        go_ret2
        exact ⟨⟨m, by rw [HE.out]; rfl, fun h => absurd HE.out h, fun _ => ⟨x, HX.out, m, rfl, HT.out, fun j hj ho => by
              obtain ⟨⟨z, hz, hzt⟩, _⟩ := ho
              exact HH.out j z (by omega) hj hz hzt⟩⟩, HQ.out⟩
  · have hb : (errOf l.length i 1 != 0) = true := by simpa using he
    have HE := Lib.hid he
    clear he
    go_enter Try.func31, Try.ntmps31
    go_wp2_with (go_at_call 84; (with_reducible refine (check_any h).mono ?_); rintro e w' ⟨rfl, rfl⟩)
    go_ret2
    exact ⟨⟨0, rfl, fun _ => rfl, fun h => absurd h HE.out⟩, Quiet.refl _⟩
end Go.Proofs.Ytimlhjjdaggiiaa.walk
