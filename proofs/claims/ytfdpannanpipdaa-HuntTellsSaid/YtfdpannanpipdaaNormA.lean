/- SchedNormals: what may be: the tests, walked. -/
import Derived.Test.YtfdpannanpipdaaNormPlain
import Derived.Test.YtfdpannanpipdaaFuncs
import Derived.Test.YtfdpannanpipdaaSame
set_option linter.unusedVariables false
set_option linter.unusedSimpArgs false
namespace Go.Proofs.Ytfdpannanpipdaa.norm
open Go.Bk Go.RowKit

theorem arr_list {α : Type} [Rep α] {S : Nat → Prop} {w : World} {a : Option Addr} {xss : List (List α)} (h : Arr S w a xss) {k : Nat} {x : List α} (hk : xss[k]? = some x) :
    ∃ (b off : Nat) (a' : Option Addr) (c' : Nat), a = some ⟨b, off, none⟩ ∧ S b ∧ w.cell? ⟨b, off + k, none⟩ = some (.slice a' x.length c') ∧ x.length ≤ c' ∧ (a' = none → c' = 0) ∧ Arr S w a' x := by
  obtain ⟨b1, o1, cs1, rfl, hs, ⟨d1, e1, rfl, hc, hn, g1⟩, q1⟩ := h.at hk
  exact ⟨b1, o1, d1, e1, rfl, hs, by simpa [show Rep.sz (List α) = 1 from rfl] using q1 0 Nat.zero_lt_one, hc, hn, g1⟩
theorem get_lt {α : Type} {l : List α} {k n : Nat} (hn : l.length = n) (h : k < n) : ∃ x, l[k]? = some x := ⟨_, List.getElem?_eq_getElem (by omega)⟩

def hangRel (w : World) (dep : List (List Bool)) (n : Nat) (i : Value) (w' : World) : Prop := ∃ k : Nat, k ≤ n ∧ i = .int .i64 k ∧ GoodTo dep k ∧ w = w'
def symRel (w : World) (dep : List (List Bool)) (n : Nat) (i : Value) (w' : World) : Prop := ∃ k : Nat, k ≤ n ∧ i = .int .i64 k ∧ SymTo dep k ∧ w = w'
def symInRel (w : World) (dep : List (List Bool)) (n k : Nat) (i : Value) (w' : World) : Prop := ∃ q : Nat, q ≤ n ∧ i = .int .i64 q ∧ SymIn dep k q ∧ w = w'

set_option maxRecDepth 100000 in
set_option maxHeartbeats 1000000 in
theorem hangs_any {S : Nat → Prop} {w : World} {a : Option Addr} {c n : Nat} {dep : List (List Bool)} (hn : dep.length = n) (h : Arr S w a dep) :
    Calls Try.prog 126 #[.slice a n c] w fun e w' => e = .returned (.bool (goodB dep)) ∧ w = w' := by
  have hsm := h.small
  rw [hn] at hsm
  unfold maxLen at hsm
  have HN := Lib.hid hn
  obtain ⟨G, hG⟩ : ∃ G, goodB dep = G := ⟨_, rfl⟩
  rw [hG]
  have HG := Lib.hid hG
  clear hG hn
  go_enter Try.func126, Try.ntmps126
  go_wp2_with fail
  go_loopw [11] (hangRel w dep n) (fun i _ => n - (intOf i).toNat)
  case atStart => exact ⟨0, Nat.zero_le _, rfl, fun i r hi => by omega, rfl⟩
  case round =>
    obtain ⟨k, hk, rfl, hgt, rfl⟩ := hrel
    have HGT := Lib.hid hgt
    clear hgt
    by_cases hlt : k < n
    · obtain ⟨r, hr⟩ := get_lt HN.out hlt
      obtain ⟨b, off, a1, c1, rfl, -, q1, -, -, h1⟩ := arr_list h hr
      obtain ⟨m, hm⟩ : ∃ m, r.length = m := ⟨_, rfl⟩
      have hms := h1.small
      rw [hm] at q1 hms
      unfold maxLen at hms
      have HR := Lib.hid hr; have HM := Lib.hid hm
      clear hr hm
      have h' := h
      clear h
      by_cases hmn : m = n
      · subst hmn
        have hne : ((m : Int) != (m : Int)) = false := by simp
        obtain ⟨b0, hb0⟩ := get_lt HM.out hlt
        obtain ⟨b2, o2, rfl, -, q2⟩ := arr_bool h1 hb0
        have HB0 := Lib.hid hb0
        clear hb0 h1 h'
        cases b0 with
        | true =>
          go_wp2_with fail
          go_roundw
          case rel => exact ⟨k + 1, by omega, by go_num, HGT.out.succ HR.out (HM.out.trans HN.out.symm) HB0.out, rfl⟩
          case measure => simp [intOf]; omega
        | false =>
          have HF := Lib.hid (goodB_false (not_good_row HR.out (.inr HB0.out)))
          go_wp2_with fail
          go_ret
          exact ⟨by rw [← HG.out, HF.out]; rfl, rfl⟩
      · have hne : ((m : Int) != (n : Int)) = true := by simp; omega
        have HF := Lib.hid (goodB_false (not_good_row HR.out (.inl (by rw [HM.out, HN.out]; exact hmn))))
        clear h1 h'
        go_wp2_with fail
        go_ret
        exact ⟨by rw [← HG.out, HF.out]; rfl, rfl⟩
    · obtain rfl : k = n := by omega
      clear hlt hk
      have h' := h
      clear h
      go_wp2_with fail
      go_loopw [31] (symRel w dep k) (fun i _ => k - (intOf i).toNat)
      case atStart => exact ⟨0, Nat.zero_le _, rfl, fun i hi => by omega, rfl⟩
      case round =>
        obtain ⟨i, hi, rfl, hst, rfl⟩ := hrel
        have HST := Lib.hid hst
        clear hst
        by_cases hlt : i < k
        · obtain ⟨r, hr⟩ := get_lt HN.out hlt
          have hrl : r.length = k := (HGT.out i r hlt hr).1.trans HN.out
          have h := h'
          obtain ⟨b, off, a1, c1, rfl, -, q1, -, -, h1⟩ := arr_list h hr
          rw [hrl] at q1
          have HR := Lib.hid hr; have HRL := Lib.hid hrl
          clear hr hrl h
          go_wp2_with fail
          go_loopw [38] (symInRel w dep k i) (fun i _ => k - (intOf i).toNat)
          case atStart => exact ⟨0, Nat.zero_le _, rfl, fun j r s hj => by omega, rfl⟩
          case round =>
            obtain ⟨j, hj, rfl, hsi, rfl⟩ := hrel
            have HSI := Lib.hid hsi
            clear hsi
            by_cases hjl : j < k
            · obtain ⟨s, hs⟩ := get_lt HN.out hjl
              have hsl : s.length = k := (HGT.out j s hjl hs).1.trans HN.out
              obtain ⟨x, hx⟩ := get_lt HRL.out hjl
              obtain ⟨y, hy⟩ := get_lt hsl hlt
              obtain ⟨b3, o3, rfl, -, q3⟩ := arr_bool h1 hx
              obtain ⟨b4, o4, a4, c4, he4, -, q4, -, -, h4⟩ := arr_list h' hs
              cases he4
              rw [hsl] at q4
              obtain ⟨b5, o5, rfl, -, q5⟩ := arr_bool h4 hy
              have HS := Lib.hid hs; have HX := Lib.hid hx; have HY := Lib.hid hy
              clear hs hx hy hsl h4
              have h1' := h1
              have h'' := h'
              clear h1 h'
              by_cases hxy : x = y
              · subst hxy
                have hne : (x != x) = false := by simp
                go_wp2_with fail
                go_roundw
                case rel => exact ⟨j + 1, by omega, by go_num, HSI.out.succ HR.out HS.out (HX.out.trans HY.out.symm), rfl⟩
                case measure => simp [intOf]; omega
              · have hne : (x != y) = true := by simpa using hxy
                have HF := Lib.hid (goodB_false (not_good_sym HR.out HS.out (fun he => by rw [HX.out, HY.out] at he; exact hxy (Option.some.inj he))))
                cases x <;> cases y <;> first | exact absurd rfl hxy | skip
                all_goals
                  go_wp2_with fail
                  go_ret
                  exact ⟨by rw [← HG.out, HF.out]; rfl, rfl⟩
            · obtain rfl : j = k := by omega
              have HSN := HSI.out
              go_wp2_with fail
              go_roundw
              case rel => exact ⟨i + 1, by omega, by go_num, HST.out.succ (by rw [HN.out]; exact HSI.out), rfl⟩
              case measure => simp [intOf]; omega
        · obtain rfl : i = k := by omega
          by_cases h0 : i = 0
          · subst h0
            have HF := Lib.hid (goodB_false (dep := dep) fun hg => hg.1 (List.eq_nil_of_length_eq_zero HN.out))
            go_wp2_with fail
            go_ret
            exact ⟨by rw [← HG.out, HF.out]; rfl, rfl⟩
          · have HF := Lib.hid (goodB_true (dep := dep) ⟨fun he => by have := HN.out; rw [he] at this; exact h0 this.symm, by rw [HN.out]; exact HGT.out, by rw [HN.out]; exact HST.out⟩)
            have h0p : 0 < i := by omega
            clear h0
            go_wp2_with fail
            go_ret
            exact ⟨by rw [← HG.out, HF.out]; first | (simp; omega) | simp, rfl⟩
end Go.Proofs.Ytfdpannanpipdaa.norm
