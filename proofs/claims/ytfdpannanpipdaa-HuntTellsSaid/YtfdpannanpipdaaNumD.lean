/- One step less: the program's without and the document's less, walked; Max; Count. -/
import Derived.Test.YtfdpannanpipdaaNumC
import Derived.Test.YtfdpannanpipdaaCloneI
set_option linter.unusedVariables false
set_option linter.unusedSimpArgs false
namespace Go.Proofs.Ytfdpannanpipdaa.num
open Go.Bk Go.RowKit

theorem own_int_at {w : World} {B n : Nat} {e : TypeId} {v : Value} {xs : List Int} (h : Own (fun _ => False) w B e v xs) (hn : xs.length = n) {k : Nat} {x : Int} (hk : xs[k]? = some x) : ∃ g cap, v = .slice (some ⟨g, 0, none⟩) n cap ∧ B ≤ g ∧ g < w.heap.size ∧ n ≤ cap ∧
    w.cell? ⟨g, k, none⟩ = some (.int .i64 x) ∧ w.frozen? ⟨g, k, none⟩ = false ∧ I64 x ∧ ∀ y, I64 y → Own (fun _ => False) (w.setCell ⟨g, k, none⟩ (.int .i64 y)) B e v (xs.set k y) := by
  obtain ⟨g, cap, cs, rfl, h1, h2, h3, ⟨rfl, h0⟩, h4, h5, h6⟩ := h.at hk
  subst hn
  refine ⟨g, cap, rfl, h1, h2, h3, ?_, h5 _, h0, fun y hy => ?_⟩
  · simpa [show Rep.sz Int = 1 from rfl] using h4 0 Nat.zero_lt_one
  · simpa [show Rep.sz Int = 1 from rfl] using h6 0 (.int .i64 y) y Nat.zero_lt_one (fun _ h => h.elim) ⟨rfl, hy⟩
theorem getD_of {qs : List Nat} {k q : Nat} (h : qs[k]? = some q) : qs.getD k 0 = q := by rw [List.getD_eq_getElem?_getD, h]; rfl
theorem ints_dec {qs : List Nat} {k q : Nat} (h : qs[k]? = some q) (hq : q ≠ 0) : (ints qs).set k ((q : Int) - 1) = ints (dec qs k) := by
  unfold ints dec
  rw [getD_of h, List.map_set]
  congr 1
  omega
theorem arr_of_own {α : Type} [Rep α] {S : Nat → Prop} {w : World} {B n c : Nat} {a : Option Addr} {e : TypeId} {xs : List α} (h : Own S w B e (.slice a n c) xs) : Arr (fun b => S b ∨ (B ≤ b ∧ b < w.heap.size)) w a xs ∧ xs.length = n ∧ n ≤ c ∧ (a = none → c = 0) := by
  obtain ⟨a', c', he, h1, h2, h3⟩ := h.arr
  injection he with e1 e2 e3
  subst e1 e2 e3
  exact ⟨h3, rfl, h1, h2⟩
def IntPost (w : World) (r : Int) (e : Ending) (w' : World) : Prop := e = .returned (.int .i64 r) ∧ Below w.heap.size w w'
theorem count_at {S : Nat → Prop} {w : World} {a : Option Addr} {c n : Nat} {qs : List Nat} {l : List Int} (hl : l = ints qs) (hn : qs.length = n) (h : Arr S w a l) (hs : qs.sum ≤ 12) :
    Calls Try.prog 76 #[.slice a n c] w fun e w' => e = .returned (.int .i64 (ways qs : Nat)) ∧ w = w' := by
  subst hl
  exact count_any hn h hs

set_option maxRecDepth 100000 in
set_option maxHeartbeats 1000000 in
theorem without_any {S : Nat → Prop} {w : World} {a : Option Addr} {c n k : Nat} {qs : List Nat} (hn : qs.length = n) (h : Arr S w a (ints qs)) (hS : ∀ b, S b → b < w.heap.size) (hs : qs.sum ≤ 12) (hk : k < n) (hnil : a = none → c = 0) (hn8 : n ≤ 8) :
    Calls Try.prog 79 #[.slice a n c, .int .i64 (k : Nat)] w (IntPost w (wo qs k : Nat)) := by
  obtain ⟨q, hq⟩ : ∃ x, qs[k]? = some x := ⟨_, List.getElem?_eq_getElem (by omega)⟩
  have HCL := Lib.hid (cloneI_any (n := n) (c := c) (by rw [ints_len, hn]) h hnil hS (by omega))
  obtain ⟨b1, o1, rfl, -, q1, hi⟩ := arr_int h (ints_get hq)
  have HG := Lib.hid (getD_of hq)
  obtain ⟨R, hR⟩ : ∃ R, R = wo qs k := ⟨_, rfl⟩
  rw [← hR]
  clear h
  by_cases h0 : q = 0
  · subst h0
    have HR : Hid (R = 0) := by show _ = _; rw [hR]; unfold wo; rw [if_pos HG.out]
    clear hR hq HCL
    go_enter Try.func79, Try.ntmps79
    go_wp2_with fail
    go_ret
    exact ⟨by rw [HR.out]; rfl, Below.refl _ _⟩
  · have HR : Hid (R = ways (dec qs k)) := by show _ = _; rw [hR]; unfold wo; rw [if_neg (by rw [HG.out]; exact h0)]
    have HD := Lib.hid (ints_dec hq h0)
    have HQ := Lib.hid hq
    have HDL : Hid ((dec qs k).length = n) := by show _ = _; rw [dec_len, hn]
    have HDS : Hid ((dec qs k).sum ≤ 12) := by
      show _ ≤ _
      have := dec_sum qs k (by rw [HG.out]; exact h0)
      omega
    have hne : decide ((q : Int) = 0) = false := decide_eq_false (by omega)
    have HIL : Hid ((ints qs).length = n) := by show _ = _; rw [ints_len, hn]
    clear hR hq
    go_enter Try.func79, Try.ntmps79
    go_wp2_with fail
    refine HCL.out.mono ?_
    rintro e w1 ⟨v1, rfl, hown, hb⟩
    obtain ⟨g, cap, rfl, hg, hgl, hcap, hc, hf, hix, hset⟩ := own_int_at hown HIL.out (ints_get HQ.out)
    have HO := Lib.hid (hset ((q : Int) - 1) (by unfold I64 at hix ⊢; omega))
    have HB : Hid (Below w.heap.size w (w1.setCell ⟨g, k, none⟩ (.int .i64 ((q : Int) - 1)))) := hb.setCell (p := ⟨g, k, none⟩) hg _
    unfold I64 at hix
    clear hown hset hb HCL
    go_wp2_with fail
    refine (count_at HD.out HDL.out (arr_of_own HO.out).1 HDS.out).mono ?_
    rintro e w' ⟨rfl, rfl⟩
    go_wp2_with fail
    go_ret
    exact ⟨by rw [HR.out]; rfl, HB.out⟩

set_option maxRecDepth 100000 in
set_option maxHeartbeats 1000000 in
theorem less_any {S : Nat → Prop} {w : World} {a : Option Addr} {c n k : Nat} {qs : List Nat} (hn : qs.length = n) (h : Arr S w a (ints qs)) (hS : ∀ b, S b → b < w.heap.size) (hk : k < n) (hnil : a = none → c = 0) (hq0 : qs.getD k 0 ≠ 0) (hn8 : n ≤ 8) :
    Calls Try.prog 80 #[.slice a n c, .int .i64 (k : Nat)] w (RetOwn 3 w (ints (dec qs k))) := by
  obtain ⟨q, hq⟩ : ∃ x, qs[k]? = some x := ⟨_, List.getElem?_eq_getElem (by omega)⟩
  rw [getD_of hq] at hq0
  have HD := Lib.hid (ints_dec hq hq0)
  have HQ := Lib.hid hq
  have HIL : Hid ((ints qs).length = n) := by show _ = _; rw [ints_len, hn]
  have HB : Hid (Own (fun _ => False) (w.alloc (.cells #[] 3)) w.heap.size 3 (.slice (some ⟨w.heap.size, 0, none⟩) 0 0) ([] : List Int)) := own_zero (Nat.le_refl _) box_zero
  have HA : Hid (Arr S (w.alloc (.cells #[] 3)) a (ints qs)) := h.keep (fun b hb => Below.heap_alloc _ _ _ (hS b hb))
  have HNI := Lib.hid hnil
  clear h hnil hn hq
  go_enter Try.func80, Try.ntmps80
  go_wp2_with ((at_builtin; with_reducible refine Try.wp_apps30 rfl rfl rfl rfl (HIL.out) (HB.out) (HA.out) Try.flat30 (HNI.out) (fun _ h => h.elim) (by (simp; omega)) (by first | omega | (simp; omega) | simp) fun v' w' hown' hg' => ?_); have hbw : Below w.heap.size w w' := box_below (n := 0) (c := 0) (by with_unfolding_all exact hg')
               obtain ⟨g, cap, rfl, hg, hgl, hcap, hc, hf, hix, hset⟩ := own_int_at (xs := ints qs) (by simpa using hown') HIL.out (ints_get HQ.out)
               have HO := Lib.hid (hset ((q : Int) - 1) (by unfold I64 at hix ⊢; omega))
               have HBW : Hid (Below w.heap.size w (w'.setCell ⟨g, k, none⟩ (.int .i64 ((q : Int) - 1)))) := hbw.setCell (p := ⟨g, k, none⟩) hg _
               unfold I64 at hix
               clear hown' hset hg' hbw)
  go_ret
  exact ⟨_, rfl, HD.out ▸ HO.out, HBW.out⟩
end Go.Proofs.Ytfdpannanpipdaa.num
