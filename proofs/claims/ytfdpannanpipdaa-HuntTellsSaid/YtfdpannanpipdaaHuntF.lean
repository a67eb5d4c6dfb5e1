/- HuntTells: the law's own function of truths; what is asked, in short. -/
import Derived.Test.YtfdpannanpipdaaHuntE
set_option linter.unusedVariables false
set_option linter.unusedSimpArgs false
namespace Go.Proofs.Ytfdpannanpipdaa.hunt
open Go.Bk Go.RowKit slice

def trF (tr : List Bool) (k : Nat) : Bool := tr.getD k false
theorem fnT_any {S : Nat → Prop} {w : World} {tb m c k : Nat} {a : Option Addr} {tr : List Bool} (hc : w.cell? ⟨tb, 0, none⟩ = some (.slice a m c)) (h : Arr S w a tr) (hm : tr.length = m) :
    Calls Try.prog 34 #[.int .i64 (k : Nat), .pointer (some ⟨tb, 0, none⟩)] w fun e w' => e = .returned (.bool (trF tr k)) ∧ Below w.heap.size w w' := by
  have hs := h.small
  rw [hm] at hs
  unfold maxLen at hs
  by_cases hk : k < m
  · obtain ⟨x, hx⟩ := norm.get_lt hm hk
    obtain ⟨b, off, rfl, -, q⟩ := arr_bool h hx
    have HT : Hid (trF tr k = x) := by show _ = _; unfold trF; rw [List.getD_eq_getElem?_getD, hx]; rfl
    have hd : decide ((k : Int) < (m : Int)) = true := by simp; omega
    clear h hx hm
    go_enter Try.func34, Try.ntmps34
    go_wp2
    go_ret
    exact ⟨by rw [HT.out]; rfl, Below.refl _ _⟩
  · have HT : Hid (trF tr k = false) := by show _ = _; unfold trF; rw [List.getD_eq_getElem?_getD, List.getElem?_eq_none (by omega)]; rfl
    have hd : decide ((k : Int) < (m : Int)) = false := by simp; omega
    clear h hm
    go_enter Try.func34, Try.ntmps34
    go_wp2
    go_ret
    exact ⟨by rw [HT.out]; rfl, Below.refl _ _⟩
theorem huntErr_large {l : List Api.DDep} {bad : Int} {good : List Int} (h : 200 < l.length) : huntErr l bad good = 2 := by
  have := errOf_large (p := bad :: good) h
  rw [huntErr_bad (by rw [this]; omega), this]
theorem susOf_bad {l : List Api.DDep} {bad : Int} {good : List Int} (h : huntErr l bad good ≠ 0) : susOf l bad good = [] := if_neg h
theorem pickOf_bad {l : List Api.DDep} {bad : Int} {good : List Int} (h : huntErr l bad good ≠ 0) : pickOf l bad good = -1 := if_neg h
theorem susOf_ok {l : List Api.DDep} {bad : Int} {good : List Int} (h : huntErr l bad good = 0) : susOf l bad good = susL l bad.toNat (good.map Int.toNat) := if_pos h
theorem pickOf_ok {l : List Api.DDep} {bad : Int} {good : List Int} (h : huntErr l bad good = 0) : pickOf l bad good = pick l bad.toNat (good.map Int.toNat) := if_pos h
theorem same_nil {S1 S2 : Nat → Prop} {w : World} {a1 a2 : Option Addr} {c1 c2 n : Nat} {xs : List Int} (hn : xs.length = n) (h1 : Arr S1 w a1 xs) (h2 : Arr S2 w a2 xs) :
    Calls Try.prog 20 #[.slice a1 n c1, .slice a2 n c2] w fun e w' => e = .returned (.bool true) ∧ Quiet w w' := hn ▸ same_ints_refl h1 h2
end Go.Proofs.Ytfdpannanpipdaa.hunt
