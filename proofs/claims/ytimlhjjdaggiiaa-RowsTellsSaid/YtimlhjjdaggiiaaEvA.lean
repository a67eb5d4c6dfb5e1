/- Events: errors, places of which it holds; walked. -/
import Derived.Test.YtimlhjjdaggiiaaEvPlain
import Derived.Test.YtimlhjjdaggiiaaFuncs
import Derived.Test.YtimlhjjdaggiiaaApp
import Derived.Test.YtimlhjjdaggiiaaSame
set_option linter.unusedVariables false
set_option linter.unusedSimpArgs false
namespace Go.Proofs.Ytimlhjjdaggiiaa
open Go.Bk Go.RowKit

set_option maxRecDepth 100000 in
theorem everr0_any {w : World} {a : Option Addr} {c : Nat} {l : List Api.Event} (hm : l.length ≤ maxLen) :
    Calls Try.prog 24 #[.slice a l.length c, .int .i64 0] w fun e w' => e = .returned (.int .i64 (evErr l)) ∧ w = w' := by
  unfold maxLen at hm
  by_cases hl : 200 < l.length
  · have HE : Hid (evErr l = 2) := if_pos hl
    go_enter Try.func24, Try.ntmps24
    go_wp2_with fail
    go_ret
    exact ⟨by rw [HE.out]; rfl, rfl⟩
  · have HE : Hid (evErr l = 0) := if_neg hl
    have h1 : (0 : Int) ≤ (l.length : Int) := by omega
    go_enter Try.func24, Try.ntmps24
    go_wp2_with (with_reducible refine (between_true (Int.le_refl 0) h1).mono ?_; rintro e w' ⟨rfl, rfl⟩)
    go_ret
    exact ⟨by rw [HE.out]; rfl, rfl⟩

def placesRel (w : World) (p : Api.Event → Bool) (l : List Api.Event) (out i : Value) (w' : World) : Prop :=
  ∃ q : Nat, q ≤ l.length ∧ i = .int .i64 q ∧ Own (fun _ => False) w' w.heap.size 3 out (placesTo p l q) ∧ Below w.heap.size w w'

set_option maxRecDepth 100000 in
set_option maxHeartbeats 1000000 in
theorem places_any {S : Nat → Prop} {w : World} {a : Option Addr} {c : Nat} {l : List Api.Event} {F : FuncId} {caps : Array Value} {p : Api.Event → Bool} (h : Arr S w a l) (hS : ∀ b, S b → b < w.heap.size)
    (hF : ∀ (y : Api.Event) (w : World), (callFunc F (#[evV y] ++ caps)).run Try.prog w = .ok (.enter F (#[evV y] ++ caps)) w)
    (hp : ∀ (y : Api.Event) (wx : World), Grow w wx → Calls Try.prog F (#[evV y] ++ caps) wx fun e w' => e = .returned (.bool (p y)) ∧ Grow wx w') :
    Calls Try.prog 77 #[.slice a l.length c, .func (.func F) #[] caps] w (RetLE w (placesRes p l)) := by
  have hm := h.small
  unfold maxLen at hm
  have HP := Lib.hid hp
  clear hp
  by_cases hl : 200 < l.length
  · have HE : Hid (placesRes p l = ([], 2)) := if_pos hl
    go_enter Try.func77, Try.ntmps77
    go_wp2_with fail
    go_ret2
    exact .err HE.out (Below.refl _ _)
  have HE : Hid (placesRes p l = (placesTo p l l.length, 0)) := if_neg hl
  have hl' : l.length ≤ 200 := by omega
  have hdl : decide (200 < l.length) = false := by simpa using hl
  clear hl
  go_enter Try.func77, Try.ntmps77
  go_wp2_with fail
  go_loopw [6, 14] (placesRel w p l) (fun _ i _ => l.length - (intOf i).toNat)
  case atStart => exact ⟨0, Nat.zero_le _, rfl, Own.nil _ _ _ _, Below.refl _ _⟩
  case round =>
    obtain ⟨q, hq, rfl, ho, hb⟩ := hrel
    have HO := Lib.hid ho; have HB := Lib.hid hb
    have hbs := hb.size
    have h' := h.keep (w' := wr) (fun b hb' => hb.block b (hS b hb'))
    clear ho hb
    by_cases hlt : q < l.length
    · obtain ⟨e, he⟩ : ∃ y, l[q]? = some y := ⟨_, List.getElem?_eq_getElem hlt⟩
      have HS := Lib.hid (placesTo_succ (p := p) he)
      obtain ⟨b, off, rfl, hSb, q0, q1, q2, q3, q4, q5, q6, q7, q8, q9, q10, q11, i0, i1, i2, i3, i4, i5, i6, i7, i8, i9, i10, i11⟩ := api_Event_elem h' he
      have hbl := hS b hSb
      have hFe := hF e
      unfold evV at hFe
      clear he h' hF
      go_wp2_with fail
      have hgr : Grow w (wr.alloc (.cells (evCells e).toArray 50)) := HB.out.alloc hbs _
      refine (HP.out e _ hgr).mono ?_
      rintro x w2 ⟨rfl, hb2⟩
      have HB2 := Lib.hid (mild_grow.trans hgr hb2)
      have HO2 := Lib.hid (HO.out.below (mild_grow.trans ((Below.refl _ _).alloc (Nat.le_refl _) _) hb2) (fun _ h => h.elim))
      have hll := placesTo_len p l q
      have hbs2 := HB2.out.size
      clear hgr hb2 HO HB q0 q1 q2 q3 q4 q5 q6 q7 q8 q9 q10 q11 i0 i1 i2 i3 i4 i5 i6 i7 i8 i9 i10 i11 hFe
      cases hpe : p e
      · have HS2 : Hid (placesTo p l (q + 1) = placesTo p l q) := by show _ = _; rw [HS.out, hpe]; simp
        clear hpe
        go_wp2_with fail
        go_roundw
        case rel => exact ⟨q + 1, by omega, by go_num, by rw [HS2.out]; exact HO2.out, HB2.out⟩
        case measure => simp [intOf] <;> omega
      · have HS2 : Hid (placesTo p l (q + 1) = placesTo p l q ++ [(q : Int)]) := by show _ = _; rw [HS.out, hpe]; simp
        have hcell : ∀ w : World, Rep.cells (fun _ => False) w [.int .i64 (q : Int)] (q : Int) := fun w => cells_int (by unfold I64; omega)
        clear hpe
        go_wp2_with (at_builtin; with_reducible refine Try.wp_app22 rfl rfl rfl rfl rfl (by first | rfl | simp) (HO2.out) (hcell _) (fun _ h => h.elim) (by omega) (by first | omega | (simp; omega)) fun v' w' hown' hg' => ?_)
        have HN' := Lib.hid hown'
        have HB' := Lib.hid (HB2.out.grown hg' hbs2 (fun k hk => (HO2.out.lt k hk).1))
        clear hown' hg'
        go_roundw
        case rel => exact ⟨q + 1, by omega, by go_num, by rw [HS2.out]; exact HN'.out, HB'.out⟩
        case measure => simp [intOf] <;> omega
    · obtain rfl : q = l.length := by omega
      obtain ⟨av, cap, rfl, hcap, hnil, harr⟩ := own_fresh HO.out
      have HAR := Lib.hid harr
      clear harr h' hF
      go_wp2_with fail
      go_ret2
      exact .ok HE.out HB.out HAR.out hcap hnil

set_option maxRecDepth 100000 in
theorem ofFn_any {w : World} {e : Api.Event} {k : Int} {g : Nat} (hc : w.cell? ⟨g, 0, none⟩ = some (.int .i64 k)) (hg : g < w.heap.size) :
    Calls Try.prog 78 #[evV e, .pointer (some ⟨g, 0, none⟩)] w fun x w' => x = .returned (.bool (e.Kind == k)) ∧ Grow w w' := by
  unfold evV
  go_enter Try.func78, Try.ntmps78
  go_wp2_with fail
  go_ret
  exact ⟨rfl, (Below.refl _ _).alloc (Nat.le_refl _) _⟩
def between (lo hi : Int) (e : Api.Event) : Bool := decide (lo ≤ e.Step) && decide (e.Step < hi)
set_option maxRecDepth 100000 in
theorem betFn_any {w : World} {e : Api.Event} {lo hi : Int} {g g2 : Nat} (hc : w.cell? ⟨g, 0, none⟩ = some (.int .i64 lo)) (hg : g < w.heap.size) (hc2 : w.cell? ⟨g2, 0, none⟩ = some (.int .i64 hi)) (hg2 : g2 < w.heap.size) :
    Calls Try.prog 79 #[evV e, .pointer (some ⟨g, 0, none⟩), .pointer (some ⟨g2, 0, none⟩)] w fun x w' => x = .returned (.bool (between lo hi e)) ∧ Grow w w' := by
  unfold evV between
  by_cases h1 : lo ≤ e.Step
  · have hd : decide (lo ≤ e.Step) = true := by simp [h1]
    clear h1
    go_enter Try.func79, Try.ntmps79
    go_wp2_with fail
    go_ret
    exact ⟨by simp [hd], (Below.refl _ _).alloc (Nat.le_refl _) _⟩
  · have hd : decide (lo ≤ e.Step) = false := by simpa using h1
    clear h1
    go_enter Try.func79, Try.ntmps79
    go_wp2_with fail
    go_ret
    exact ⟨by simp [hd], (Below.refl _ _).alloc (Nat.le_refl _) _⟩

theorem RetLE.from {α : Type} [Rep α] {w w1 : World} {res : List α × Int} {x : Ending} {w2 : World} (hb : Grow w w1) (h : RetLE w1 res x w2) : RetLE w res x w2 := by
  obtain ⟨⟨a, c, h1, h2, h3, h4⟩, h5⟩ := h
  exact ⟨⟨a, c, h1, h2.mono (fun b hb' => ⟨Nat.le_trans hb.size hb'.1, hb'.2⟩), h3, h4⟩, mild_grow.trans hb h5⟩
theorem RetLE.tuple {α : Type} [Rep α] {w : World} {res : List α × Int} {x : Ending} {w' : World} (h : RetLE w res x w') : ∃ a c, x = .returned (.tuple #[.slice a res.1.length c, .int .i64 res.2]) := by
  obtain ⟨⟨a, c, h1, _⟩, _⟩ := h
  exact ⟨a, c, h1⟩

set_option maxRecDepth 100000 in
theorem of_any {S : Nat → Prop} {w : World} {a : Option Addr} {c : Nat} {l : List Api.Event} {k : Int} (h : Arr S w a l) (hS : ∀ b, S b → b < w.heap.size) :
    Calls Try.prog 20 #[.slice a l.length c, .int .i64 k] w (RetLE w (placesRes (fun e => e.Kind == k) l)) := by
  have hgr : Grow w (w.alloc (.cells #[.int .i64 k] 3)) := (Below.refl _ _).alloc (Nat.le_refl _) _
  have HC := Lib.hid (places_any (c := c) (p := fun e => e.Kind == k) (F := 78) (caps := #[.pointer (some ⟨w.heap.size, 0, none⟩)]) (h.still hS hgr) (fun b hb => Nat.lt_of_lt_of_le (hS b hb) hgr.size) (fun y w => Try.call78 _ _)
    (fun y wx hx => ofFn_any (by rw [hx.cell (p := ⟨w.heap.size, 0, none⟩) (by simp)]; simp) (Nat.lt_of_lt_of_le (by simp) hx.size)))
  have HG := Lib.hid hgr
  clear hgr h
  go_enter Try.func20, Try.ntmps20
  go_wp2_with fail
  refine HC.out.mono ?_
  intro x w2 (hr : RetLE (w.alloc (.cells #[.int .i64 k] 3)) (placesRes (fun e => e.Kind == k) l) x w2)
  obtain ⟨a2, c2, rfl⟩ := RetLE.tuple hr
  have HR := Lib.hid (RetLE.from HG.out hr)
  clear hr HC
  go_wp2_with fail
  go_ret2
  exact HR.out
set_option maxRecDepth 100000 in
theorem between_any' {S : Nat → Prop} {w : World} {a : Option Addr} {c : Nat} {l : List Api.Event} {lo hi : Int} (h : Arr S w a l) (hS : ∀ b, S b → b < w.heap.size) :
    Calls Try.prog 21 #[.slice a l.length c, .int .i64 lo, .int .i64 hi] w (RetLE w (placesRes (between lo hi) l)) := by
  have hgr : Grow w ((w.alloc (.cells #[.int .i64 lo] 3)).alloc (.cells #[.int .i64 hi] 3)) := ((Below.refl _ _).alloc (Nat.le_refl _) _).alloc (by simp) _
  have HC := Lib.hid (places_any (c := c) (p := between lo hi) (F := 79) (caps := #[.pointer (some ⟨w.heap.size, 0, none⟩), .pointer (some ⟨w.heap.size + 1, 0, none⟩)]) (h.still hS hgr) (fun b hb => Nat.lt_of_lt_of_le (hS b hb) hgr.size) (fun y w => Try.call79 _ _)
    (fun y wx hx => betFn_any (by rw [hx.cell (p := ⟨w.heap.size, 0, none⟩) (by simp; omega)]; simp) (Nat.lt_of_lt_of_le (by simp; omega) hx.size) (by rw [hx.cell (p := ⟨w.heap.size + 1, 0, none⟩) (by simp)]; simp [World.cell?_alloc_at]) (Nat.lt_of_lt_of_le (by simp) hx.size)))
  have HG := Lib.hid hgr
  clear hgr h
  go_enter Try.func21, Try.ntmps21
  go_wp2_with fail
  refine HC.out.mono ?_
  intro x w2 (hr : RetLE ((w.alloc (.cells #[.int .i64 lo] 3)).alloc (.cells #[.int .i64 hi] 3)) (placesRes (between lo hi) l) x w2)
  obtain ⟨a2, c2, rfl⟩ := RetLE.tuple hr
  have HR := Lib.hid (RetLE.from HG.out hr)
  clear hr HC
  go_wp2_with fail
  go_ret2
  exact HR.out
end Go.Proofs.Ytimlhjjdaggiiaa
