/- A list without a stretch; the asker; the law's own question, walked. -/
import Derived.Test.YtimlhjjdaggiiaaConcatI
import Derived.Test.YtimlhjjdaggiiaaCloneI
import Derived.Test.YtimlhjjdaggiiaaSlices
import Derived.Deep.RegionWith
set_option linter.unusedVariables false
set_option linter.unusedSimpArgs false
namespace Go.Proofs.Ytimlhjjdaggiiaa.small
open Go.Bk Go.RowKit

theorem own_set {α : Type} [Rep α] {w : World} {B g j : Nat} {e : TypeId} {v u : Value} {xs : List α} (h : Own (fun _ => False) w B e v xs) (hg : g < B) : Own (fun _ => False) (w.setCell ⟨g, j, none⟩ u) B e v xs := by
  refine h.keep (row := some g) ⟨rfl, rfl, rfl, by simp [World.setCell], fun k _ hne => ?_⟩ ?_ (fun _ h => h.elim)
  · simp only [World.setCell]
    rw [Array.getElem?_modify, if_neg (fun e => hne (by rw [e]))]
  · cases hv : v.ownBlock with
    | none => exact .inl rfl
    | some k => right; intro e; injection e with e; subst e; have := h.lt k hv; omega
theorem _root_.Go.Bk.Own.base {α : Type} [Rep α] {S : Nat → Prop} {w : World} {B B' : Nat} {e : TypeId} {v : Value} {xs : List α} (h : Own S w B e v xs) (hB : B' ≤ B) : Own S w B' e v xs := by
  obtain ⟨css, h1, h2, h3, h4⟩ := h
  refine ⟨css, h1, h2, h3, ?_⟩
  rcases h4 with h4 | ⟨g, cap, cur, h4, h5, h6⟩
  · exact .inl h4
  · exact .inr ⟨g, cap, cur, h4, Nat.le_trans hB h5, h6⟩
theorem arr_lists2' {α : Type} [Rep α] {S : Nat → Prop} {w : World} {g c1 c2 : Nat} {e : TypeId} {a1 a2 : Option Addr} {x y : List α} (hb : Blk w g e [.slice a1 x.length c1, .slice a2 y.length c2]) (hc : x.length ≤ c1) (hn : a1 = none → c1 = 0) (h : Arr S w a1 x) (hS : ∀ b, S b → b < w.heap.size)
    (hc2 : y.length ≤ c2) (hn2 : a2 = none → c2 = 0) (h2 : Arr S w a2 y) : Arr (· < w.heap.size) w (some ⟨g, 0, none⟩) [x, y] := arr_lists2 hb hc hn h hS hc2 hn2 h2 hS

theorem concat2 {w0 w : World} {a : Option Addr} {c : Nat} {x y : List Int} (h : Arr (· < w.heap.size) w a [x, y]) (hs : [x, y].flatten.length ≤ 2000000) (hb : Below w0.heap.size w0 w) :
    Calls Try.prog 144 #[.slice a 2 c] w (RetOwn 3 w0 (x ++ y)) :=
  (concatI_any (m := 2) rfl h (fun _ h => h) (by omega) hs).mono fun e w' ⟨v, he, ho, hb'⟩ => by
    have e1 : [x, y].flatten = x ++ y := by simp
    rw [e1] at ho
    exact ⟨v, he, ho.base hb.size, hb.trans (hb'.mono hb.size)⟩

set_option maxRecDepth 100000 in
set_option maxHeartbeats 2000000 in
theorem without_any {S : Nat → Prop} {w : World} {a : Option Addr} {c n f t : Nat} {l : List Int} (hn : l.length = n) (h : Arr S w a l) (hS : ∀ b, S b → b < w.heap.size) (hcap : n ≤ c) (hnil : a = none → c = 0) (hc : c ≤ 9223372036854775807) (hft : f ≤ t) (htn : t ≤ n) (hl : n ≤ 200) :
    Calls Try.prog 114 #[.slice a n c, .int .i64 f, .int .i64 t] w (RetOwn 3 w (l.take f ++ l.drop t)) := by
  have hr1 : ∀ w : World, (Instr.slice 22 (.slice a n c) none (some (.int .i64 (f : Int))) none).run Try.prog w = .ok (.slice a f c) w := fun w => run_slice_to (z := 1) Try.underlying22 (by kernel_rfl) a n c f (by omega) hc w
  have hr2 : ∀ w : World, (Instr.slice 22 (.slice a n c) (some (.int .i64 (t : Int))) none none).run Try.prog w = .ok (.slice (if c = t then a else a.map (·.add (t * 1))) (n - t) (c - t)) w := fun w => run_slice_from (z := 1) Try.underlying22 (by kernel_rfl) a n c t htn hcap hc w
  have h1 : Arr S w a (l.take f) := h.take f
  have h2 : Arr S w (if c = t then a else a.map (·.add (t * 1))) (l.drop t) := h.from c t (by omega) (by omega)
  have hn2 := from_none (a := a) (c := c) (k := t) (z := 1) hnil
  obtain ⟨a2, ha2⟩ : ∃ a2, a2 = (if c = t then a else a.map (·.add (t * 1))) := ⟨_, rfl⟩
  rw [← ha2] at h2 hn2
  rw [← ha2] at hr2
  have hl1 : (l.take f).length = f := by simp; omega
  have hl2 : (l.drop t).length = n - t := by simp; omega
  obtain ⟨m2, hm2⟩ : ∃ m2, m2 = n - t := ⟨_, rfl⟩
  rw [← hm2] at hl2 hr2
  have hsum : ([l.take f, l.drop t].flatten).length ≤ 2000000 := by simp; omega
  have HL : Hid (∀ wx : World, (∀ b, b < w.heap.size → wx.heap[b]? = w.heap[b]?) → ∀ g : Nat, w.heap.size ≤ g → Blk wx g 22 [.slice a f c, .slice a2 m2 (c - t)] → Arr (· < wx.heap.size) wx (some ⟨g, 0, none⟩) [l.take f, l.drop t]) := fun wx hx g hg hb => by
    have hgl := hb.lt
    refine arr_lists2' (by rw [hl1, hl2]; exact hb) (by rw [hl1]; omega) hnil (h1.keep (fun b hb => hx b (hS b hb))) (fun b hb => by have := hS b hb; omega) (by rw [hl2]; omega) hn2 (h2.keep (fun b hb => hx b (hS b hb)))
  have HS2 := Lib.hid hsum
  clear h h1 h2 hn2 ha2 hm2 hl1 hl2 hsum hnil
  have hcc := concat2 (w0 := w) (w := (w.alloc (.cells #[.slice a f c, .slice a2 m2 (c - t)] 22)).drew) (c := 2) (HL.out (w.alloc (.cells #[.slice a f c, .slice a2 m2 (c - t)] 22)).drew (fun b hb => Below.heap_alloc _ _ _ hb) _ (Nat.le_refl _) (blk_new w [.slice a f c, .slice a2 m2 (c - t)] 22)) HS2.out ((Below.refl _ _).alloc (Nat.le_refl _) _).drew
  obtain ⟨R, hR⟩ : ∃ R, R = l.take f ++ l.drop t := ⟨_, rfl⟩
  rw [← hR] at hcc; rw [← hR]
  have HCC := Lib.hid hcc
  clear hcc hR
  go_enter Try.func114, Try.ntmps114
  go_wp2_with fail
  go_region_with (go_at_call 144; refine HCC.out.mono ?_; rintro e w' ⟨v3, rfl, ho, hb⟩; have HO := Lib.hid ho; have HB := Lib.hid hb; clear ho hb)
  all_goals
    go_wp2_with fail
    go_ret
    exact ⟨_, rfl, HO.out, HB.out⟩
end Go.Proofs.Ytimlhjjdaggiiaa.small
