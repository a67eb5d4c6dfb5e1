/- PagesTells: the document's PagesUses: walked. -/
import Derived.Test.YtjlnaiiajlahgaaPagE
set_option linter.unusedVariables false
set_option linter.unusedSimpArgs false
namespace Go.Proofs.Ytjlnaiiajlahgaa.pag
open Go.Bk Go.RowKit

/-- Every row is short. -/
def Short (s : Store) : Prop := s.roots.length ≤ 1000 ∧ ∀ r ∈ s.roots, r.length ≤ 1000
theorem short_len {l : List (List Int)} (h : ∀ r ∈ l, r.length ≤ 1000) : l.flatten.length ≤ 1000 * l.length := by
  induction l with
  | nil => simp
  | cons r l ih =>
    have h1 := h r (List.mem_cons_self ..)
    have h2 := ih fun x hx => h x (List.mem_cons_of_mem _ hx)
    rw [List.flatten_cons, List.length_append, List.length_cons]
    omega
theorem cnt_short {s : Store} (h : Short s) (i k : Nat) (p : Int) : 0 ≤ cnt (seen s.roots i k) p ∧ cnt (seen s.roots i k) p ≤ 1001000 := by
  have h1 := cnt_range (seen s.roots i k) p
  have h2 := short_len (l := s.roots.take i) fun r hr => h.2 r (List.mem_of_mem_take hr)
  have h3 : (((s.roots[i]?).getD []).take k).length ≤ 1000 := by
    rw [List.length_take]
    cases hr : s.roots[i]? with
    | none => simp
    | some r => have := h.2 r (List.mem_of_getElem? hr); simp; omega
  have h4 : (seen s.roots i k).length = (s.roots.take i).flatten.length + (((s.roots[i]?).getD []).take k).length := by unfold seen; rw [List.length_append]
  have h5 : (s.roots.take i).length ≤ 1000 := by rw [List.length_take]; have := h.1; omega
  omega
set_option maxRecDepth 100000 in
set_option maxHeartbeats 1000000 in
theorem puses_any {S : Nat → Prop} {w : World} {aP aU aR : Option Addr} {nP nU nR cP cU cR : Nat} {s : Store} {p : Int} (h : StAt S w aP aU aR nP nU nR s) (hS : ∀ b, S b → b < w.heap.size) (hs : Short s) :
    Calls Try.prog 38 #[stV aP aU aR nP nU nR cP cU cR, .int .i64 p] w (CodePost w (cnt s.roots.flatten p)) := by
  have HB0 : Hid (RowKit.Below w.heap.size w (w.alloc (.cells #[.slice aP nP cP, .slice aU nU cU, .slice aR nR cR] 26))) := (RowKit.Below.refl _ _).alloc (Nat.le_refl _) _
  obtain ⟨x0, x1, x2⟩ := box_cells (w := w) (x := .slice aP nP cP) (y := .slice aU nU cU) (z := .slice aR nR cR) (T := 26) (RowKit.Below.refl _ _)
  have HST : Hid (StAt S (w.alloc (.cells #[.slice aP nP cP, .slice aU nU cU, .slice aR nR cR] 26)) aP aU aR nP nU nR s) := h.below hS HB0.out
  have HSH := Lib.hid hs
  have hR : nR ≤ 1000 := by rw [← h.lenR]; exact hs.1
  clear h hS hs
  go_enter Try.func38, Try.ntmps38
  go_wp2_with fail
  generalize w.alloc (.cells #[.slice aP nP cP, .slice aU nU cU, .slice aR nR cR] 26) = w1 at *
  have HX2 := Lib.hid x2
  clear x0 x1
  go_loopw [5, 6] (fun n v w' => ∃ i : Nat, i ≤ nR ∧ v = .int .i64 i ∧ n = .int .i64 (cnt (seen s.roots i 0) p) ∧ w' = w1) (fun _ i _ => nR - (intOf i).toNat)
  case atStart => exact ⟨0, Nat.zero_le _, rfl, by rw [seen_zero]; rfl, rfl⟩
  case round =>
  obtain ⟨i, hi, rfl, rfl, hw⟩ := hrel
  obtain rfl : w1 = wr := hw.symm
  by_cases hin : i < nR
  case neg =>
    have hie : seen s.roots i 0 = s.roots.flatten := by rw [show i = s.roots.length by rw [HST.out.lenR]; omega, seen_all]
    rw [hie]
    clear hie
    go_wp2_with fail
    go_ret
    exact ⟨rfl, HB0.out⟩
  case pos =>
  obtain ⟨r, hr⟩ : ∃ r, s.roots[i]? = some r := ⟨_, List.getElem?_eq_getElem (by rw [HST.out.lenR]; exact hin)⟩
  obtain ⟨b1, o1, a', c', rfl, -, q0, hlc, hn', harr⟩ := row_elem HST.out.roots hr
  have HR := Lib.hid hr; have HA := Lib.hid harr
  obtain ⟨m, hm⟩ : ∃ m, m = r.length := ⟨_, rfl⟩
  have hm1 : m ≤ 1000 := by rw [hm]; exact HSH.out.2 r (List.mem_of_getElem? hr)
  rw [← hm] at q0
  have HM := Lib.hid hm
  have HQ0 := Lib.hid q0
  clear hr harr hm hlc hn'
  go_wp2_with fail
  go_loopw [5, 7] (fun n v w' => ∃ k : Nat, k ≤ m ∧ v = .int .i64 k ∧ n = .int .i64 (cnt (seen s.roots i k) p) ∧ w' = w1) (fun _ k _ => m - (intOf k).toNat)
  case atStart => exact ⟨0, Nat.zero_le _, rfl, rfl, rfl⟩
  case round =>
  obtain ⟨k, hk, rfl, rfl, hw⟩ := hrel
  obtain rfl : w1 = wr := hw.symm
  have x2 := HX2.out; have q0 := HQ0.out
  by_cases hkm : k < m
  case neg =>
    have HE : Hid (seen s.roots i k = seen s.roots (i + 1) 0) := by show _ = _; rw [← seen_row HR.out, ← HM.out, show k = m by omega]
    go_wp2_with fail
    go_roundw
    case rel => exact ⟨i + 1, by omega, by go_num, by rw [HE.out], by trivial⟩
    case measure => simp [intOf]; omega
  case pos =>
  obtain ⟨x, hx⟩ : ∃ x, r[k]? = some x := ⟨_, List.getElem?_eq_getElem (by rw [← HM.out]; exact hkm)⟩
  obtain ⟨b2, o2, rfl, -, y0, -⟩ := arr_int HA.out hx
  have hsn := seen_next HR.out hx
  have hcs := cnt_short HSH.out i k p
  obtain ⟨c, hc⟩ : ∃ c, c = cnt (seen s.roots i k) p := ⟨_, rfl⟩
  rw [← hc] at hcs ⊢
  have hc1 := hcs.1; have hc2 := hcs.2
  have HC := Lib.hid hc; have HN := Lib.hid hsn
  clear hc hcs hsn hx
  by_cases he : x = p
  · have d1 : (x == p) = true := by simp [he]
    have HE : Hid (cnt (seen s.roots i (k + 1)) p = c + 1) := by show _ = _; rw [HN.out, cnt_append, cnt_one, if_pos he, HC.out]
    clear he
    go_wp2_with fail
    go_roundw
    case rel => exact ⟨k + 1, by omega, by go_num, by rw [HE.out], by trivial⟩
    case measure => simp [intOf]; omega
  · have d1 : (x == p) = false := by simp [he]
    have HE : Hid (cnt (seen s.roots i (k + 1)) p = c) := by show _ = _; rw [HN.out, cnt_append, cnt_one, if_neg he, HC.out]; omega
    clear he
    go_wp2_with fail
    go_roundw
    case rel => exact ⟨k + 1, by omega, by go_num, by rw [HE.out], by trivial⟩
    case measure => simp [intOf]; omega
end Go.Proofs.Ytjlnaiiajlahgaa.pag
