/- The table of instructions: what of, Tells answer. -/
import Derived.Test.YtjlnaiiajlahgaaDoorSameTo
import Derived.Test.YtjlnaiiajlahgaaDoorIrPlain
set_option linter.unusedVariables false
set_option linter.unusedSimpArgs false
namespace Go.Proofs.YtjlnaiiajlahgaaDoor.ir
open Go.Bk Go.RowKit

set_option maxRecDepth 100000 in
set_option maxHeartbeats 2000000 in
theorem of_any {w : World} {op : Int} :
    Calls Tryd.prog 53 #[.int .i64 op] w fun e w' => e = .returned (.tuple #[formV (formOf op).1, .bool (formOf op).2]) ∧ Below w.heap.size w w' := by
  have h : op < 1 ∨ 19 < op ∨ op = 1 ∨ op = 2 ∨ op = 3 ∨ op = 4 ∨ op = 5 ∨ op = 6 ∨ op = 7 ∨ op = 8 ∨ op = 9 ∨ op = 10 ∨ op = 11 ∨ op = 12 ∨ op = 13 ∨ op = 14 ∨ op = 15 ∨ op = 16 ∨ op = 17 ∨ op = 18 ∨ op = 19 := by omega
  rcases h with h | h | rfl | rfl | rfl | rfl | rfl | rfl | rfl | rfl | rfl | rfl | rfl | rfl | rfl | rfl | rfl | rfl | rfl | rfl | rfl
  · have hf : formOf op = (⟨0, 0, 0, false, false, 0⟩, false) := formOf_else (.inl h)
    have HF := Lib.hid hf
    clear hf
    go_enter Tryd.func53, Tryd.ntmps53
    go_wp2
    rw [HF.out]
    exact bodyPost_ret (v := .tuple #[formV ⟨0, 0, 0, false, false, 0⟩, .bool false]) (by simp [results, Tryd.results53, go_sem, formV]) rfl ⟨rfl, (Below.refl _ _).alloc (Nat.le_refl _) _⟩
  · have hf : formOf op = (⟨0, 0, 0, false, false, 0⟩, false) := formOf_else (.inr h)
    have HF := Lib.hid hf
    clear hf
    go_enter Tryd.func53, Tryd.ntmps53
    go_wp2
    rw [HF.out]
    exact bodyPost_ret (v := .tuple #[formV ⟨0, 0, 0, false, false, 0⟩, .bool false]) (by simp [results, Tryd.results53, go_sem, formV]) rfl ⟨rfl, (Below.refl _ _).alloc (Nat.le_refl _) _⟩
  · go_enter Tryd.func53, Tryd.ntmps53
    go_wp2
    exact bodyPost_ret (v := .tuple #[formV (formOf 1).1, .bool (formOf 1).2]) (by simp [results, Tryd.results53, go_sem, formV, formOf]) rfl ⟨rfl, (Below.refl _ _).alloc (Nat.le_refl _) _⟩
  · go_enter Tryd.func53, Tryd.ntmps53
    go_wp2
    exact bodyPost_ret (v := .tuple #[formV (formOf 2).1, .bool (formOf 2).2]) (by simp [results, Tryd.results53, go_sem, formV, formOf]) rfl ⟨rfl, (Below.refl _ _).alloc (Nat.le_refl _) _⟩
  · go_enter Tryd.func53, Tryd.ntmps53
    go_wp2
    exact bodyPost_ret (v := .tuple #[formV (formOf 3).1, .bool (formOf 3).2]) (by simp [results, Tryd.results53, go_sem, formV, formOf]) rfl ⟨rfl, (Below.refl _ _).alloc (Nat.le_refl _) _⟩
  · go_enter Tryd.func53, Tryd.ntmps53
    go_wp2
    exact bodyPost_ret (v := .tuple #[formV (formOf 4).1, .bool (formOf 4).2]) (by simp [results, Tryd.results53, go_sem, formV, formOf]) rfl ⟨rfl, (Below.refl _ _).alloc (Nat.le_refl _) _⟩
  · go_enter Tryd.func53, Tryd.ntmps53
    go_wp2
    exact bodyPost_ret (v := .tuple #[formV (formOf 5).1, .bool (formOf 5).2]) (by simp [results, Tryd.results53, go_sem, formV, formOf]) rfl ⟨rfl, (Below.refl _ _).alloc (Nat.le_refl _) _⟩
  · go_enter Tryd.func53, Tryd.ntmps53
    go_wp2
    exact bodyPost_ret (v := .tuple #[formV (formOf 6).1, .bool (formOf 6).2]) (by simp [results, Tryd.results53, go_sem, formV, formOf]) rfl ⟨rfl, (Below.refl _ _).alloc (Nat.le_refl _) _⟩
  · go_enter Tryd.func53, Tryd.ntmps53
    go_wp2
    exact bodyPost_ret (v := .tuple #[formV (formOf 7).1, .bool (formOf 7).2]) (by simp [results, Tryd.results53, go_sem, formV, formOf]) rfl ⟨rfl, (Below.refl _ _).alloc (Nat.le_refl _) _⟩
  · go_enter Tryd.func53, Tryd.ntmps53
    go_wp2
    exact bodyPost_ret (v := .tuple #[formV (formOf 8).1, .bool (formOf 8).2]) (by simp [results, Tryd.results53, go_sem, formV, formOf]) rfl ⟨rfl, (Below.refl _ _).alloc (Nat.le_refl _) _⟩
  · go_enter Tryd.func53, Tryd.ntmps53
    go_wp2
    exact bodyPost_ret (v := .tuple #[formV (formOf 9).1, .bool (formOf 9).2]) (by simp [results, Tryd.results53, go_sem, formV, formOf]) rfl ⟨rfl, (Below.refl _ _).alloc (Nat.le_refl _) _⟩
  · go_enter Tryd.func53, Tryd.ntmps53
    go_wp2
    exact bodyPost_ret (v := .tuple #[formV (formOf 10).1, .bool (formOf 10).2]) (by simp [results, Tryd.results53, go_sem, formV, formOf]) rfl ⟨rfl, (Below.refl _ _).alloc (Nat.le_refl _) _⟩
  · go_enter Tryd.func53, Tryd.ntmps53
    go_wp2
    exact bodyPost_ret (v := .tuple #[formV (formOf 11).1, .bool (formOf 11).2]) (by simp [results, Tryd.results53, go_sem, formV, formOf]) rfl ⟨rfl, (Below.refl _ _).alloc (Nat.le_refl _) _⟩
  · go_enter Tryd.func53, Tryd.ntmps53
    go_wp2
    exact bodyPost_ret (v := .tuple #[formV (formOf 12).1, .bool (formOf 12).2]) (by simp [results, Tryd.results53, go_sem, formV, formOf]) rfl ⟨rfl, (Below.refl _ _).alloc (Nat.le_refl _) _⟩
  · go_enter Tryd.func53, Tryd.ntmps53
    go_wp2
    exact bodyPost_ret (v := .tuple #[formV (formOf 13).1, .bool (formOf 13).2]) (by simp [results, Tryd.results53, go_sem, formV, formOf]) rfl ⟨rfl, (Below.refl _ _).alloc (Nat.le_refl _) _⟩
  · go_enter Tryd.func53, Tryd.ntmps53
    go_wp2
    exact bodyPost_ret (v := .tuple #[formV (formOf 14).1, .bool (formOf 14).2]) (by simp [results, Tryd.results53, go_sem, formV, formOf]) rfl ⟨rfl, (Below.refl _ _).alloc (Nat.le_refl _) _⟩
  · go_enter Tryd.func53, Tryd.ntmps53
    go_wp2
    exact bodyPost_ret (v := .tuple #[formV (formOf 15).1, .bool (formOf 15).2]) (by simp [results, Tryd.results53, go_sem, formV, formOf]) rfl ⟨rfl, (Below.refl _ _).alloc (Nat.le_refl _) _⟩
  · go_enter Tryd.func53, Tryd.ntmps53
    go_wp2
    exact bodyPost_ret (v := .tuple #[formV (formOf 16).1, .bool (formOf 16).2]) (by simp [results, Tryd.results53, go_sem, formV, formOf]) rfl ⟨rfl, (Below.refl _ _).alloc (Nat.le_refl _) _⟩
  · go_enter Tryd.func53, Tryd.ntmps53
    go_wp2
    exact bodyPost_ret (v := .tuple #[formV (formOf 17).1, .bool (formOf 17).2]) (by simp [results, Tryd.results53, go_sem, formV, formOf]) rfl ⟨rfl, (Below.refl _ _).alloc (Nat.le_refl _) _⟩
  · go_enter Tryd.func53, Tryd.ntmps53
    go_wp2
    exact bodyPost_ret (v := .tuple #[formV (formOf 18).1, .bool (formOf 18).2]) (by simp [results, Tryd.results53, go_sem, formV, formOf]) rfl ⟨rfl, (Below.refl _ _).alloc (Nat.le_refl _) _⟩
  · go_enter Tryd.func53, Tryd.ntmps53
    go_wp2
    exact bodyPost_ret (v := .tuple #[formV (formOf 19).1, .bool (formOf 19).2]) (by simp [results, Tryd.results53, go_sem, formV, formOf]) rfl ⟨rfl, (Below.refl _ _).alloc (Nat.le_refl _) _⟩
end Go.Proofs.YtjlnaiiajlahgaaDoor.ir
