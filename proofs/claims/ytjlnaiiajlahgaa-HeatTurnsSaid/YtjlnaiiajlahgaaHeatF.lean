/- HeatTurns: contracts in the law's form; the law's closed fact. -/
import Derived.Test.YtjlnaiiajlahgaaHeatE
set_option linter.unusedVariables false
set_option linter.unusedSimpArgs false
namespace Go.Proofs.Ytjlnaiiajlahgaa.heat
open Go.Bk Go.RowKit Go.Maps

theorem new_ok (w : World) {hot : Int} (h1 : 1 ≤ hot) (h2 : hot ≤ 1000) : Calls Try.prog 22 #[.int .i64 hot] w fun e w' => ∃ gH gm, e = .returned (.tuple #[.pointer (some ⟨gH, 0, none⟩), .int .i64 0]) ∧ HeatAt w' w.heap.size gH gm 0 hot [] ∧ RowKit.Below w.heap.size w w' :=
  (new_any w hot).mono fun e w' h => by
    rcases h with ⟨h, -⟩ | ⟨-, -, gH, gm, he, hh, hb⟩
    · omega
    · exact ⟨gH, gm, he, hh, hb⟩
theorem new_bad (w : World) {hot : Int} (h : hot < 1 ∨ 1000 < hot) : Calls Try.prog 22 #[.int .i64 hot] w fun e w' => e = .returned (.tuple #[.pointer none, .int .i64 1]) ∧ w = w' :=
  (new_any w hot).mono fun e w' h' => by
    rcases h' with ⟨-, he, hw⟩ | ⟨h1, h2, -⟩
    · exact ⟨he, hw⟩
    · omega
/-- Where neither of its blocks was turned. -/
theorem HeatAt.same {w w' : World} {B gH gm n : Nat} {hot : Int} {l : List Api.THead} (h : HeatAt w B gH gm n hot l) (h1 : w'.heap[gH]? = w.heap[gH]?) (h2 : w'.heap[gm]? = w.heap[gm]?) : HeatAt w' B gH gm n hot l :=
  ⟨h.box.keep h1, h.map.block h2, h.ne, h.low, h.inv⟩
theorem below_grow {N : Nat} {w w1 w2 : World} {gm : Nat} (hb : RowKit.Below N w w1) (hg : w1.grownBy w2 (some gm)) (hN : N ≤ w1.heap.size) (hm : N ≤ gm) : RowKit.Below N w w2 := hb.grown hg hN (fun r hr => by cases hr; exact hm)
theorem turn_ok {w : World} {B gH gm n : Nat} {hot fn at' : Int} {l l' : List Api.THead} {t : Int} (h : HeatAt w B gH gm n hot l) (h1 : 1 ≤ hot) (h2 : hot ≤ 1000) (hn : n < 1000000000) (hf : I64 fn) (ha : I64 at') (hT : turnL hot l fn at' = (l', t)) (ht : 0 ≤ t) :
    Calls Try.prog 25 #[.pointer (some ⟨gH, 0, none⟩), .int .i64 fn, .int .i64 at'] w fun e w' => e = .returned (.tuple #[.int .i64 t, .int .i64 0]) ∧ HeatAt w' B gH gm (n + 1) hot l' ∧ w.grownBy w' (some gm) :=
  (turn_any h h1 h2 hn hf ha).mono fun e w' hp => by
    rw [hT] at hp
    obtain ⟨he, hh, hg⟩ := hp
    dsimp only at he hh
    rw [if_neg (by omega), if_neg (by omega)] at he
    exact ⟨he, hh, hg⟩
theorem turn_err {w : World} {B gH gm n : Nat} {hot fn at' : Int} {l l' : List Api.THead} {t : Int} (h : HeatAt w B gH gm n hot l) (h1 : 1 ≤ hot) (h2 : hot ≤ 1000) (hn : n < 1000000000) (hf : I64 fn) (ha : I64 at') (hT : turnL hot l fn at' = (l', t)) (ht : t < 0) :
    Calls Try.prog 25 #[.pointer (some ⟨gH, 0, none⟩), .int .i64 fn, .int .i64 at'] w fun e w' => e = .returned (.tuple #[.int .i64 0, .int .i64 (-t)]) ∧ HeatAt w' B gH gm (n + 1) hot l' ∧ w.grownBy w' (some gm) :=
  (turn_any h h1 h2 hn hf ha).mono fun e w' hp => by
    rw [hT] at hp
    obtain ⟨he, hh, hg⟩ := hp
    dsimp only at he hh
    rw [if_pos (by omega), if_pos (by omega)] at he
    exact ⟨he, hh, hg⟩
theorem taken_ok {w : World} {B gH gm n : Nat} {hot fn at' : Int} {l l' : List Api.THead} {t : Int} (g : Bool) (h : HeatAt w B gH gm n hot l) (hn : n < 1000000000) (hf : I64 fn) (ha : I64 at') (hT : takenL l fn at' g = (l', t)) :
    Calls Try.prog 24 #[.pointer (some ⟨gH, 0, none⟩), .int .i64 fn, .int .i64 at', .bool g] w fun e w' => e = .returned (.int .i64 t) ∧ HeatAt w' B gH gm (n + 1) hot l' ∧ w.grownBy w' (some gm) :=
  (taken_any g h hn hf ha).mono fun e w' hp => by
    rw [hT] at hp
    exact hp
set_option maxRecDepth 100000 in
theorem heated_any (w : World) : Calls Try.prog 23 #[] w fun e w' => e = .returned (.bool true) ∧ RowKit.Below w.heap.size w w' := by
  have HE1 : Hid (turnL 2 [] 0 3 = ([⟨0, 3, 1, 2, 0, 0⟩], 0)) := by show _ = _; rfl
  have HE2 : Hid (turnL 2 [⟨0, 3, 1, 2, 0, 0⟩] 0 3 = ([⟨0, 3, 2, 2, 0, 1⟩], 1)) := by show _ = _; rfl
  have HE3 : Hid (takenL [⟨0, 3, 2, 2, 0, 1⟩] 0 3 true = ([⟨0, 3, 2, 2, 0, 2⟩], 0)) := by show _ = _; rfl
  have HI : Hid (I64 0 ∧ I64 3) := ⟨by unfold I64; omega, by unfold I64; omega⟩
  go_enter Try.func23, Try.ntmps23
  have HNW : Hid (∀ w, Calls Try.prog 22 #[.int .i64 2] w fun e w' => ∃ gH gm, e = .returned (.tuple #[.pointer (some ⟨gH, 0, none⟩), .int .i64 0]) ∧ HeatAt w' w.heap.size gH gm 0 2 [] ∧ RowKit.Below w.heap.size w w') := fun w => new_ok w (by omega) (by omega)
  have HT1 : Hid (∀ w B gH gm, HeatAt w B gH gm 0 2 [] → Calls Try.prog 25 #[.pointer (some ⟨gH, 0, none⟩), .int .i64 0, .int .i64 3] w fun e w' => e = .returned (.tuple #[.int .i64 0, .int .i64 0]) ∧ HeatAt w' B gH gm (0 + 1) 2 [⟨0, 3, 1, 2, 0, 0⟩] ∧ w.grownBy w' (some gm)) :=
    fun w B gH gm h => turn_ok h (by omega) (by omega) (by omega) HI.out.1 HI.out.2 HE1.out (by omega)
  have HT2 : Hid (∀ w B gH gm, HeatAt w B gH gm (0 + 1) 2 [⟨0, 3, 1, 2, 0, 0⟩] → Calls Try.prog 25 #[.pointer (some ⟨gH, 0, none⟩), .int .i64 0, .int .i64 3] w fun e w' => e = .returned (.tuple #[.int .i64 1, .int .i64 0]) ∧ HeatAt w' B gH gm (0 + 1 + 1) 2 [⟨0, 3, 2, 2, 0, 1⟩] ∧ w.grownBy w' (some gm)) :=
    fun w B gH gm h => turn_ok h (by omega) (by omega) (by omega) HI.out.1 HI.out.2 HE2.out (by omega)
  have HT3 : Hid (∀ w B gH gm, HeatAt w B gH gm (0 + 1 + 1) 2 [⟨0, 3, 2, 2, 0, 1⟩] → Calls Try.prog 24 #[.pointer (some ⟨gH, 0, none⟩), .int .i64 0, .int .i64 3, .bool true] w fun e w' => e = .returned (.int .i64 0) ∧ HeatAt w' B gH gm (0 + 1 + 1 + 1) 2 [⟨0, 3, 2, 2, 0, 2⟩] ∧ w.grownBy w' (some gm)) :=
    fun w B gH gm h => taken_ok true h (by omega) HI.out.1 HI.out.2 HE3.out
  go_wp2_with (first
    | (go_at_call 22; (with_reducible refine (HNW.out _).mono ?_); rintro e w1 ⟨gH, gm, rfl, hh1, hb1⟩; have HB1 := Lib.hid hb1; have HH1 := Lib.hid hh1; clear hb1 hh1)
    | (go_at_call 25; (with_reducible refine (HT2.out _ _ _ _ HH2.out).mono ?_); rintro e w3 ⟨rfl, hh3, hg3⟩; have HB3 := Lib.hid (below_grow HB2.out hg3 HB2.out.size HH2.out.low.2); have HH3 := Lib.hid hh3; clear hg3 hh3)
    | (go_at_call 25; (with_reducible refine (HT1.out _ _ _ _ HH1.out).mono ?_); rintro e w2 ⟨rfl, hh2, hg2⟩; have HB2 := Lib.hid (below_grow HB1.out hg2 HB1.out.size HH1.out.low.2); have HH2 := Lib.hid hh2; clear hg2 hh2)
    | (go_at_call 24; (with_reducible refine (HT3.out _ _ _ _ HH3.out).mono ?_); rintro e w4 ⟨rfl, -, hg4⟩; have HB4 := Lib.hid (below_grow HB3.out hg4 HB3.out.size HH3.out.low.2); clear hg4))
  go_ret
  exact ⟨rfl, HB4.out⟩
end Go.Proofs.Ytjlnaiiajlahgaa.heat
