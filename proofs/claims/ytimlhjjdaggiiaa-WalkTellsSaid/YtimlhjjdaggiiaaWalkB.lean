/- Next, Last, walked. -/
import Derived.Test.YtimlhjjdaggiiaaWalkA
set_option linter.unusedVariables false
set_option linter.unusedSimpArgs false
namespace Go.Proofs.Ytimlhjjdaggiiaa.walk
open Go.Bk Go.RowKit

def nextRel (w : World) (l : List Api.DMark) (x : Api.DMark) (i : Nat) (how : Int) (v : Value) (w' : World) : Prop :=
  ∃ k : Nat, i + 1 ≤ k ∧ k ≤ l.length ∧ v = .int .i64 k ∧ (∀ j, i + 1 ≤ j → j < k → fromAt l x how j = false) ∧ Below w.heap.size w w'

def lastRel (w : World) (l : List Api.DMark) (x : Api.DMark) (i : Nat) (how : Int) (v : Value) (w' : World) : Prop :=
  ∃ k : Nat, k ≤ i ∧ v = .int .i64 ((k : Int) - 1) ∧ (∀ j, k ≤ j → j < i → toAt l x how j = false) ∧ Below w.heap.size w w'

/-- What Next, Last hand back. -/
def Tells (w : World) (l : List Api.DMark) (i how : Int) (R : Option Nat → Prop) (e : Ending) (w' : World) : Prop :=
  (∃ r, e = .returned (.tuple #[.int .i64 (placeOf r).1, .bool (placeOf r).2, .int .i64 (errOf l.length i how)]) ∧ R r) ∧ Below w.heap.size w w'

set_option maxRecDepth 100000 in
theorem next_any {S : Nat → Prop} {w : World} {a : Option Addr} {c : Nat} {l : List Api.DMark} {i how : Int} (h : Arr S w a l) (hS : ∀ b, S b → b < w.heap.size) :
    Calls Try.prog 29 #[.slice a l.length c, .int .i64 i, .int .i64 how] w (Tells w l i how (NextIs l i how)) := by
  have hm := h.small
  unfold maxLen at hm
  by_cases he : errOf l.length i how = 0
  · obtain ⟨e1, e2, e3, e4, e5⟩ := errOf_zero he
    have HE := Lib.hid he
    obtain ⟨n, rfl⟩ : ∃ n : Nat, i = n := ⟨i.toNat, by omega⟩
    have hn : n < l.length := by omega
    obtain ⟨x, hx⟩ : ∃ x, l[n]? = some x := ⟨_, List.getElem?_eq_getElem hn⟩
    have HX := Lib.hid hx
    go_enter Try.func29, Try.ntmps29
    go_wp2_with (go_at_call 84; (with_reducible refine (check_any h).mono ?_); rintro e w' ⟨rfl, rfl⟩; rw [he])
    clear he hx
    go_loopw [10] (nextRel w l x n how) (fun i _ => l.length - (intOf i).toNat)
    case atStart => exact ⟨n + 1, by omega, by omega, by go_num, fun j h1 h2 => by omega, Below.refl _ _⟩
    case round =>
      obtain ⟨k, hk1, hk2, rfl, hno, hb⟩ := hrel
      have HB := Lib.hid hb; have HN := Lib.hid hno
      have h' := h.keep (w' := wr) (fun b hb' => hb.block b (hS b hb'))
      clear hb hno
      by_cases hlt : k < l.length
      · obtain ⟨y, hy⟩ : ∃ y, l[k]? = some y := ⟨_, List.getElem?_eq_getElem hlt⟩
        have HY := Lib.hid hy
        obtain ⟨b, off, rfl, hSb, p1, p2, p3, -⟩ := api_DMark_elem h' HX.out
        obtain ⟨b', off', he', -, q1, q2, q3, -⟩ := api_DMark_elem h' HY.out
        obtain ⟨rfl, rfl⟩ : b = b' ∧ off = off' := by simpa using he'
        have hbl : b < wr.heap.size := by have := hS b hSb; have := HB.out.size; omega
        clear hy he' h'
        cases hr : rchI x y how with
        | true =>
          have HR := Lib.hid hr
          go_wp2
          first | (refine wp_region_drift_lit (by kernel_rfl) (by kernel_rfl) (fun hdr => ?_); (repeat (go_big_quiet_step ((go_at_call 85; exact drift_of (hr ▸ reached_any))))); refine wpQuiet_nil ?_; intro wq hw'; obtain ⟨⟨wd, hbd⟩, hw''⟩ := hw'; dsimp only at hw''; subst wq; clear hdr)
          have HD := Lib.hid hbd
          clear hbd hr
          go_wp2
          go_ret3
          exact ⟨⟨some k, by rw [HE.out]; rfl, fun h => absurd HE.out h, fun _ => ⟨x, HX.out, by simpa using hk1, hlt, fromAt_eq e4 e5 HY.out HR.out, fun j h1 h2 => HN.out j (by simpa using h1) h2⟩⟩, HB.out.trans (HD.out.mono HB.out.size)⟩
        | false =>
          have HR := Lib.hid hr
          go_wp2
          first | (refine wp_region_drift_lit (by kernel_rfl) (by kernel_rfl) (fun hdr => ?_); (repeat (go_big_quiet_step ((go_at_call 85; exact drift_of (hr ▸ reached_any))))); refine wpQuiet_nil ?_; intro wq hw'; obtain ⟨⟨wd, hbd⟩, hw''⟩ := hw'; dsimp only at hw''; subst wq; clear hdr)
          have HD := Lib.hid hbd
          clear hbd hr
          go_wp2
          go_roundw
          case rel =>
            refine ⟨k + 1, by omega, by omega, by go_num, fun j h1 h2 => ?_, HB.out.trans (HD.out.mono HB.out.size)⟩
            by_cases hj : j = k
            · subst hj; exact fromAt_eq e4 e5 HY.out HR.out
            · exact HN.out j h1 (by omega)
          case measure => simp [intOf]; omega
      · go_wp2
        go_ret3
        exact ⟨⟨none, by rw [HE.out]; rfl, fun h => absurd HE.out h, fun _ => ⟨x, HX.out, fun j h1 h2 => HN.out j (by simpa using h1) (by omega)⟩⟩, HB.out⟩
  · have hb : (errOf l.length i how != 0) = true := by simpa using he
    have HE := Lib.hid he
    clear he
    go_enter Try.func29, Try.ntmps29
    go_wp2_with (go_at_call 84; (with_reducible refine (check_any h).mono ?_); rintro e w' ⟨rfl, rfl⟩)
    go_ret3
    exact ⟨⟨none, rfl, fun _ => rfl, fun h => absurd h HE.out⟩, Below.refl _ _⟩

set_option maxRecDepth 100000 in
theorem last_any {S : Nat → Prop} {w : World} {a : Option Addr} {c : Nat} {l : List Api.DMark} {i how : Int} (h : Arr S w a l) (hS : ∀ b, S b → b < w.heap.size) :
    Calls Try.prog 30 #[.slice a l.length c, .int .i64 i, .int .i64 how] w (Tells w l i how (LastIs l i how)) := by
  have hm := h.small
  unfold maxLen at hm
  by_cases he : errOf l.length i how = 0
  · obtain ⟨e1, e2, e3, e4, e5⟩ := errOf_zero he
    have HE := Lib.hid he
    obtain ⟨n, rfl⟩ : ∃ n : Nat, i = n := ⟨i.toNat, by omega⟩
    have hn : n < l.length := by omega
    obtain ⟨x, hx⟩ : ∃ x, l[n]? = some x := ⟨_, List.getElem?_eq_getElem hn⟩
    have HX := Lib.hid hx
    go_enter Try.func30, Try.ntmps30
    go_wp2_with (go_at_call 84; (with_reducible refine (check_any h).mono ?_); rintro e w' ⟨rfl, rfl⟩; rw [he])
    clear he hx
    go_loopw [10] (lastRel w l x n how) (fun i _ => (intOf i + 1).toNat)
    case atStart => exact ⟨n, by omega, rfl, fun j h1 h2 => by omega, Below.refl _ _⟩
    case round =>
      obtain ⟨k', hk1, rfl, hno, hb⟩ := hrel
      have HB := Lib.hid hb; have HN := Lib.hid hno
      have h' := h.keep (w' := wr) (fun b hb' => hb.block b (hS b hb'))
      clear hb hno
      by_cases hlt : 0 < k'
      · obtain ⟨k, rfl⟩ : ∃ k, k' = k + 1 := ⟨k' - 1, by omega⟩
        have hkk : (((k + 1 : Nat) : Int) - 1) = (k : Int) := by omega
        rw [hkk]
        clear hkk
        have hkl : k < l.length := by omega
        obtain ⟨y, hy⟩ : ∃ y, l[k]? = some y := ⟨_, List.getElem?_eq_getElem hkl⟩
        have HY := Lib.hid hy
        obtain ⟨b, off, rfl, hSb, p1, p2, p3, -⟩ := api_DMark_elem h' HX.out
        obtain ⟨b', off', he', -, q1, q2, q3, -⟩ := api_DMark_elem h' HY.out
        obtain ⟨rfl, rfl⟩ : b = b' ∧ off = off' := by simpa using he'
        have hbl : b < wr.heap.size := by have := hS b hSb; have := HB.out.size; omega
        clear hy he' h'
        cases hr : rchI y x how with
        | true =>
          have HR := Lib.hid hr
          go_wp2
          first | (refine wp_region_drift_lit (by kernel_rfl) (by kernel_rfl) (fun hdr => ?_); (repeat (go_big_quiet_step ((go_at_call 85; exact drift_of (hr ▸ reached_any))))); refine wpQuiet_nil ?_; intro wq hw'; obtain ⟨⟨wd, hbd⟩, hw''⟩ := hw'; dsimp only at hw''; subst wq; clear hdr)
          have HD := Lib.hid hbd
          clear hbd hr
          go_wp2
          go_ret3
          exact ⟨⟨some k, by rw [HE.out]; rfl, fun h => absurd HE.out h, fun _ => ⟨x, HX.out, by show k < (n : Int).toNat; simp; omega, toAt_eq e4 e5 HY.out HR.out, fun j h1 h2 => HN.out j (by omega) h2⟩⟩, HB.out.trans (HD.out.mono HB.out.size)⟩
        | false =>
          have HR := Lib.hid hr
          go_wp2
          first | (refine wp_region_drift_lit (by kernel_rfl) (by kernel_rfl) (fun hdr => ?_); (repeat (go_big_quiet_step ((go_at_call 85; exact drift_of (hr ▸ reached_any))))); refine wpQuiet_nil ?_; intro wq hw'; obtain ⟨⟨wd, hbd⟩, hw''⟩ := hw'; dsimp only at hw''; subst wq; clear hdr)
          have HD := Lib.hid hbd
          clear hbd hr
          go_wp2
          go_roundw
          case rel =>
            refine ⟨k, by omega, rfl, fun j h1 h2 => ?_, HB.out.trans (HD.out.mono HB.out.size)⟩
            by_cases hj : j = k
            · subst hj; exact toAt_eq e4 e5 HY.out HR.out
            · exact HN.out j (by omega) h2
          case measure => simp [intOf]
      · obtain rfl : k' = 0 := by omega
        go_wp2
        go_ret3
        exact ⟨⟨none, by rw [HE.out]; rfl, fun h => absurd HE.out h, fun _ => ⟨x, HX.out, fun j h2 => HN.out j (by omega) h2⟩⟩, HB.out⟩
  · have hb : (errOf l.length i how != 0) = true := by simpa using he
    have HE := Lib.hid he
    clear he
    go_enter Try.func30, Try.ntmps30
    go_wp2_with (go_at_call 84; (with_reducible refine (check_any h).mono ?_); rintro e w' ⟨rfl, rfl⟩)
    go_ret3
    exact ⟨⟨none, rfl, fun _ => rfl, fun h => absurd h HE.out⟩, Below.refl _ _⟩
end Go.Proofs.Ytimlhjjdaggiiaa.walk
