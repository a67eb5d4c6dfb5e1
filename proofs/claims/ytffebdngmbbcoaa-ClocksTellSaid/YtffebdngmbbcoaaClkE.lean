/- ClocksEdges: Edges; the reference's ClockErr and IsEdge: walked. -/
import Derived.Test.YtffebdngmbbcoaaClkD
import Derived.Test.YtffebdngmbbcoaaSame
set_option linter.unusedVariables false
set_option linter.unusedSimpArgs false
namespace Go.Proofs.Ytffebdngmbbcoaa.clk
open Go.Bk Go.RowKit Go.Maps Go.Proofs.Ytffebdngmbbcoaa.lock

def EdgesPost (w : World) (r : List Api.DPair × Int) (e : Ending) (w' : World) : Prop := ∃ v, e = .returned (.tuple #[v, .int .i64 r.2]) ∧ Own (fun _ => False) w' w.heap.size 58 v r.1 ∧ Below w.heap.size w w'
def edgesRes (l : List Api.Event) (t : Int) : List Api.DPair × Int := if clkErr l t = 0 then (refTo l l.length, 0) else ([], clkErr l t)
theorem clkErr_len {l : List Api.Event} {t : Int} (h : clkErr l t = 0) : l.length ≤ 200 := by
  unfold clkErr at h
  split at h
  · omega
  · omega
set_option maxRecDepth 100000 in
theorem Edges_any {S : Nat → Prop} {w : World} {a : Option Addr} {c n : Nat} {l : List Api.Event} {t : Int} (hn : l.length = n) (h : Arr S w a l) (hS : ∀ b, S b → b < w.heap.size) :
    Calls Try.prog 21 #[.slice a n c, .int .i64 t] w (EdgesPost w (edgesRes l t)) := by
  have HC := Lib.hid (check_any (c := c) (t := t) hn h hS)
  by_cases he : clkErr l t = 0
  · have HR : Hid (edgesRes l t = (refTo l n, 0)) := by show _ = _; unfold edgesRes; rw [if_pos he, hn]
    have HE : Hid (∀ w', Below w.heap.size w w' → Calls Try.prog 38 #[.slice a n c] w' (PairsPost w' (refTo l n))) := fun w' hb => edges_any hn (h.keep (fun b hb' => hb.block b (hS b hb'))) (fun b hb' => Nat.lt_of_lt_of_le (hS b hb') hb.size) (by have := clkErr_len he; omega)
    rw [he] at HC
    clear h hn hS he
    go_enter Try.func21, Try.ntmps21
    go_wp2_with fail
    refine HC.out.mono ?_
    rintro e w1 ⟨rfl, hb⟩
    have HB := Lib.hid hb
    clear hb
    go_wp2_with fail
    refine (HE.out _ HB.out).mono ?_
    rintro e w2 ⟨v, rfl, ho, hb⟩
    have HO := Lib.hid ho
    have HB2 := Lib.hid (HB.out.trans (hb.mono HB.out.size))
    clear ho hb
    go_wp2_with fail
    go_ret2
    refine ⟨v, by rw [HR.out]; rfl, ?_, HB2.out⟩
    rw [HR.out]
    obtain ⟨css, h1, h2, hl, ⟨e1, e2⟩ | ⟨g, cap, cur, he, hg, hr⟩⟩ := HO.out
    · exact ⟨css, h1, h2, hl, .inl ⟨e1, e2⟩⟩
    · exact ⟨css, h1, h2, hl, .inr ⟨g, cap, cur, he, Nat.le_trans HB.out.size hg, hr⟩⟩
  · have HR : Hid (edgesRes l t = ([], clkErr l t)) := by show _ = _; unfold edgesRes; rw [if_neg he]
    have hd : (clkErr l t != 0) = true := by simpa using he
    obtain ⟨E, hE⟩ : ∃ E, E = clkErr l t := ⟨_, rfl⟩
    rw [← hE] at HC HR hd
    clear h hn hS he hE
    go_enter Try.func21, Try.ntmps21
    go_wp2_with fail
    refine HC.out.mono ?_
    rintro e w1 ⟨rfl, hb⟩
    have HB := Lib.hid hb
    clear hb
    go_wp2_with fail
    go_ret2
    exact ⟨.slice none 0 0, by rw [HR.out]; rfl, by rw [HR.out]; exact Own.nil _ _ _ _, HB.out⟩
def ceRel (w : World) (l : List Api.Event) (t : Int) (n : Nat) (v5 : Value) (w' : World) : Prop := ∃ k : Nat, k ≤ n ∧ v5 = .int .i64 k ∧ (∀ j e, j < k → l[j]? = some e → ¬ (e.Thread < 0 ∨ t ≤ e.Thread)) ∧ w = w'
set_option maxRecDepth 100000 in
theorem clockErr_any {S : Nat → Prop} {w : World} {a : Option Addr} {c n : Nat} {l : List Api.Event} {t : Int} (hn : l.length = n) (h : Arr S w a l) :
    Calls Try.prog 23 #[.slice a n c, .int .i64 t] w fun e w' => e = .returned (.int .i64 (clkErr l t)) ∧ w = w' := by
  have hsm := h.small
  rw [hn] at hsm
  unfold maxLen at hsm
  have HN := Lib.hid hn
  by_cases hl : 200 < n
  · have HR : Hid (clkErr l t = 2) := by show _ = _; unfold clkErr; rw [if_pos (by omega)]
    clear h hn
    go_enter Try.func23, Try.ntmps23
    go_wp2
    go_ret
    exact ⟨by rw [HR.out]; rfl, rfl⟩
  · by_cases h8 : t < 0 ∨ 8 < t
    · have HR : Hid (clkErr l t = 1) := by show _ = _; unfold clkErr; rw [if_neg (by omega), if_pos h8]
      have HB := Lib.hid (between_false (w := w) h8)
      clear h hn h8
      go_enter Try.func23, Try.ntmps23
      go_wp2_with (go_at_call 39; (with_reducible refine HB.out.mono ?_); rintro e w' ⟨rfl, rfl⟩)
      go_ret
      exact ⟨by rw [HR.out]; rfl, rfl⟩
    · have HR : Hid (clkErr l t = if l.any (fun e => decide (e.Thread < 0 ∨ t ≤ e.Thread)) then 1 else 0) := by show _ = _; unfold clkErr; rw [if_neg (by omega), if_neg h8]
      have HB := Lib.hid (between_true (w := w) (x := t) (lo := 0) (hi := 8) (by omega) (by omega))
      have ht0 : 0 ≤ t := by omega
      have ht8 : t ≤ 8 := by omega
      clear hn h8
      go_enter Try.func23, Try.ntmps23
      go_wp2_with (go_at_call 39; (with_reducible refine HB.out.mono ?_); rintro e w' ⟨rfl, rfl⟩)
      clear HB
      go_loopw [5] (ceRel w l t n) (fun i _ => n - (intOf i).toNat)
      case atStart => exact ⟨0, Nat.zero_le _, rfl, (fun j e hj => by omega), rfl⟩
      case round =>
        obtain ⟨k, hk, rfl, hall, rfl⟩ := hrel
        have HALL := Lib.hid hall
        clear hall
        by_cases hlt : k < n
        · obtain ⟨x, hx⟩ : ∃ x, l[k]? = some x := ⟨_, List.getElem?_eq_getElem (by have := HN.out; omega)⟩
          obtain ⟨b1, o1, rfl, -, q0, q1, q2, q3, q4, q5, q6, q7, q8, q9, q10, q11, -⟩ := api_Event_elem h hx
          have HX := Lib.hid hx
          clear hx h
          by_cases hb : x.Thread < 0 ∨ t ≤ x.Thread
          · have HB := Lib.hid (between_false (w := w) (x := x.Thread) (lo := 0) (hi := t - 1) (by omega))
            have HA : Hid (clkErr l t = 1) := by
              show _ = _
              rw [HR.out, if_pos (List.any_eq_true.2 ⟨x, List.mem_of_getElem? HX.out, decide_eq_true hb⟩)]
            clear hb
            go_wp2_with (go_at_call 39; (with_reducible refine HB.out.mono ?_); rintro e w' ⟨rfl, rfl⟩)
            go_ret
            exact ⟨by rw [HA.out]; rfl, rfl⟩
          · have HB := Lib.hid (between_true (w := w) (x := x.Thread) (lo := 0) (hi := t - 1) (by omega) (by omega))
            have HALL2 : Hid (∀ j e, j < k + 1 → l[j]? = some e → ¬ (e.Thread < 0 ∨ t ≤ e.Thread)) := fun j e hj he => by
              by_cases e1 : j = k
              · subst e1; rw [HX.out] at he; cases he; exact hb
              · exact HALL.out j e (by omega) he
            clear hb
            go_wp2_with (go_at_call 39; (with_reducible refine HB.out.mono ?_); rintro e w' ⟨rfl, rfl⟩)
            go_roundw
            case rel => exact ⟨k + 1, by omega, by go_num, HALL2.out, rfl⟩
            case measure => simp [intOf]; omega
        · obtain rfl : k = n := by omega
          have HA : Hid (clkErr l t = 0) := by
            show _ = _
            rw [HR.out, if_neg]
            intro h
            obtain ⟨x, hx, hd⟩ := List.any_eq_true.1 h
            obtain ⟨j, hj⟩ := List.getElem?_of_mem hx
            exact HALL.out j x (by rw [← HN.out]; exact (List.getElem?_eq_some_iff.1 hj).1) hj (of_decide_eq_true hd)
          go_wp2
          go_ret
          exact ⟨by rw [HA.out]; rfl, rfl⟩
end Go.Proofs.Ytffebdngmbbcoaa.clk
