/- ClocksTell: pair, before, Of, Before, Apart: walked. -/
import Derived.Test.YtffebdngmbbcoaaTellA
set_option linter.unusedVariables false
set_option linter.unusedSimpArgs false
namespace Go.Proofs.Ytffebdngmbbcoaa.clk
open Go.Bk Go.RowKit Go.Maps Go.Proofs.Ytffebdngmbbcoaa.lock

def offB (n : Nat) (i j : Int) : Bool := decide (i < 0 ∨ (n : Int) ≤ i ∨ j < 0 ∨ (n : Int) ≤ j)
def pairErr (l : List Api.Event) (t i j : Int) : Int := if clkErr l t ≠ 0 then clkErr l t else if offB l.length i j then 1 else 0
theorem off_cases (n : Nat) (i j : Int) : (i < 0) ∨ (¬ i < 0 ∧ (n : Int) ≤ i) ∨ (¬ i < 0 ∧ ¬ (n : Int) ≤ i ∧ j < 0) ∨ (¬ i < 0 ∧ ¬ (n : Int) ≤ i ∧ ¬ j < 0 ∧ (n : Int) ≤ j) ∨ (¬ i < 0 ∧ ¬ (n : Int) ≤ i ∧ ¬ j < 0 ∧ ¬ (n : Int) ≤ j) := by omega
theorem off_cases2 (n : Nat) (i j : Int) : (decide (i < 0) = true ∧ offB n i j = true) ∨ (decide (i < 0) = false ∧ decide ((n : Int) ≤ i) = true ∧ offB n i j = true) ∨ (decide (i < 0) = false ∧ decide ((n : Int) ≤ i) = false ∧ decide (j < 0) = true ∧ offB n i j = true) ∨ (decide (i < 0) = false ∧ decide ((n : Int) ≤ i) = false ∧ decide (j < 0) = false ∧ decide ((n : Int) ≤ j) = true ∧ offB n i j = true) ∨
    (decide (i < 0) = false ∧ decide ((n : Int) ≤ i) = false ∧ decide (j < 0) = false ∧ decide ((n : Int) ≤ j) = false ∧ offB n i j = false) := by
  unfold offB
  simp only [decide_eq_true_eq, decide_eq_false_iff_not]
  omega
set_option maxRecDepth 100000 in
theorem pair_any {S : Nat → Prop} {w : World} {a : Option Addr} {c n : Nat} {l : List Api.Event} {t i j : Int} (hn : l.length = n) (h : Arr S w a l) (hS : ∀ b, S b → b < w.heap.size) :
    Calls Try.prog 41 #[.slice a n c, .int .i64 t, .int .i64 i, .int .i64 j] w fun e w' => e = .returned (.int .i64 (pairErr l t i j)) ∧ Below w.heap.size w w' := by
  have HC := Lib.hid (check_any (c := c) (t := t) hn h hS)
  have hsm := h.small
  rw [hn] at hsm
  unfold maxLen at hsm
  by_cases he : clkErr l t = 0
  · have HR : Hid (pairErr l t i j = if offB n i j then 1 else 0) := by show _ = _; unfold pairErr; rw [if_neg (by omega), hn]
    rw [he] at HC
    have hoff := off_cases2 n i j
    clear h hn he
    rcases hoff with ⟨d1, ho⟩ | ⟨d1, d2, ho⟩ | ⟨d1, d2, d3, ho⟩ | ⟨d1, d2, d3, d4, ho⟩ | ⟨d1, d2, d3, d4, ho⟩
    all_goals
      rw [ho] at HR
      clear ho
      go_enter Try.func41, Try.ntmps41
      go_wp2_with fail
      refine HC.out.mono ?_
      rintro e w1 ⟨rfl, hb⟩
      have HB := Lib.hid hb
      clear hb HC
      go_wp2_with fail
      go_ret
      exact ⟨by rw [HR.out]; rfl, HB.out⟩
  · have HR : Hid (pairErr l t i j = clkErr l t) := by show _ = _; unfold pairErr; rw [if_pos he]
    have hd : (clkErr l t == 0) = false := by simpa using he
    obtain ⟨E, hE⟩ : ∃ E, E = clkErr l t := ⟨_, rfl⟩
    rw [← hE] at HC HR hd
    clear h hn he hE
    go_enter Try.func41, Try.ntmps41
    go_wp2_with fail
    refine HC.out.mono ?_
    rintro e w1 ⟨rfl, hb⟩
    have HB := Lib.hid hb
    clear hb HC
    go_wp2_with fail
    go_ret
    exact ⟨by rw [HR.out]; rfl, HB.out⟩
set_option maxRecDepth 100000 in
theorem before_any {S : Nat → Prop} {w : World} {a : Option Addr} {c n m i j g B H : Nat} {rb : Nat → Nat} {l : List Api.Event} (hn : l.length = n) (h : Arr S w a l) (hm : Mat w B H g 28 3 n m n rb (fun k t => (cnt l k t : Nat))) (hi : i < n) (hj : j < n) (hth : ∀ (j : Nat) (e : Api.Event), l[j]? = some e → 0 ≤ e.Thread ∧ e.Thread < m) (hl : n ≤ 200) :
    Calls Try.prog 42 #[.slice a n c, .slice (some ⟨g, 0, none⟩) n n, .int .i64 (i : Nat), .int .i64 (j : Nat)] w fun e w' => e = .returned (.bool (ahead l j i)) ∧ Quiet w w' := by
  obtain ⟨x, hx⟩ : ∃ x, l[i]? = some x := ⟨_, List.getElem?_eq_getElem (by omega)⟩
  obtain ⟨b1, o1, rfl, -, q0, q1, q2, -⟩ := api_Event_elem h hx
  have htx := hth i x hx
  obtain ⟨T, hT⟩ : ∃ T, T = x.Thread.toNat := ⟨_, rfl⟩
  have hTx : x.Thread = (T : Int) := by omega
  have hTm : T < m := by omega
  have hh1 := hm.head hi
  have hh2 := hm.head hj
  have hc1 := hm.cell hi hTm
  have hc2 := hm.cell hj hTm
  rw [hTx] at q2
  by_cases hij : i = j
  · have d : ((i : Int) != (j : Int)) = false := by simp; omega
    have HR : Hid (ahead l j i = false) := by show _ = _; unfold ahead; rw [decide_eq_true hij]; rfl
    clear hij h hm hx q0 q1 hc1 hc2 hh1 hh2 hT hn
    go_enter Try.func42, Try.ntmps42
    go_wp2_with fail
    first | (refine wp_region_quiet_lit (by kernel_rfl) (by kernel_rfl) ?_; (repeat (go_big_quiet_step (fail))); refine wpQuiet_nil ?_; intro _ hw'; obtain ⟨nq, hw''⟩ := hw'; subst hw'')
    go_wp2_with fail
    go_ret
    exact ⟨by rw [HR.out]; rfl, by repeat (first | exact Quiet.refl _ | refine quietD ?_ _)⟩
  · have d : ((i : Int) != (j : Int)) = true := by simp; omega
    have HR := before_iff hx hij
    rw [hTx] at HR
    obtain ⟨A, hA⟩ : ∃ A, A = cnt l i T := ⟨_, rfl⟩
    obtain ⟨C, hC⟩ : ∃ C, C = cnt l j T := ⟨_, rfl⟩
    have hA2 := cnt_le l i T
    have hC2 := cnt_le l j T
    rw [← hA] at HR hc1 hA2
    rw [← hC] at HR hc2 hC2
    have HD : Hid (decide (A ≤ C) = ahead l j i) := by
      show _ = _
      rw [Bool.eq_iff_iff, ← HR, decide_eq_true_eq]
    clear hij h hm hx q0 q1 hT hn HR hA hC
    go_enter Try.func42, Try.ntmps42
    go_wp2_with fail
    first | (refine wp_region_quiet_lit (by kernel_rfl) (by kernel_rfl) ?_; (repeat (go_big_quiet_step (fail))); refine wpQuiet_nil ?_; intro _ hw'; obtain ⟨nq, hw''⟩ := hw'; subst hw'')
    go_wp2_with fail
    go_ret
    exact ⟨by rw [← HD.out]; rfl, by repeat (first | exact Quiet.refl _ | refine quietD ?_ _)⟩
theorem clkErr_zero {l : List Api.Event} {t : Int} (h : clkErr l t = 0) : l.length ≤ 200 ∧ ∃ m : Nat, t = (m : Int) ∧ m ≤ 8 ∧ ∀ (j : Nat) (e : Api.Event), l[j]? = some e → 0 ≤ e.Thread ∧ e.Thread < m := by
  refine ⟨clkErr_len h, t.toNat, ?_⟩
  unfold clkErr at h
  split at h
  · omega
  · split at h
    · omega
    · split at h
      · omega
      · rename_i h1 h2 h3
        refine ⟨by omega, by omega, fun j e he => ?_⟩
        have : ¬ (e.Thread < 0 ∨ t ≤ e.Thread) := fun hh => h3 (List.any_eq_true.2 ⟨e, List.mem_of_getElem? he, decide_eq_true hh⟩)
        omega
/-- What Of hands back. -/
def OfPost (w : World) (l : List Api.Event) (t : Int) (n : Nat) (e : Ending) (w' : World) : Prop :=
  (clkErr l t ≠ 0 ∧ e = .returned (.tuple #[.slice none 0 0, .int .i64 (clkErr l t)]) ∧ Below w.heap.size w w') ∨
  (clkErr l t = 0 ∧ ∃ (m g : Nat) (rb : Nat → Nat), t = (m : Int) ∧ e = .returned (.tuple #[.slice (some ⟨g, 0, none⟩) n n, .int .i64 0]) ∧ Mat w' w.heap.size w'.heap.size g 28 3 n m n rb (fun k t => (cnt l k t : Nat)) ∧ Below w.heap.size w w')
theorem Mat.base {w : World} {B B' H g n m i : Nat} {eS e : TypeId} {rb : Nat → Nat} {f : Nat → Nat → Int} (h : Mat w B H g eS e n m i rb f) (hB : B' ≤ B) : Mat w B' H g eS e n m i rb f :=
  ⟨h.outer, h.row, ⟨Nat.le_trans hB h.low.1, fun k hk => Nat.le_trans hB (h.low.2 k hk)⟩, h.high, h.off, h.apart⟩
theorem Mat.top {w : World} {B H H' g n m i : Nat} {eS e : TypeId} {rb : Nat → Nat} {f : Nat → Nat → Int} (h : Mat w B H g eS e n m i rb f) (hB : H ≤ H') : Mat w B H' g eS e n m i rb f :=
  ⟨h.outer, h.row, h.low, ⟨Nat.lt_of_lt_of_le h.high.1 hB, fun k hk => Nat.lt_of_lt_of_le (h.high.2 k hk) hB⟩, h.off, h.apart⟩
set_option maxRecDepth 100000 in
theorem Of_any {S : Nat → Prop} {w : World} {a : Option Addr} {c n : Nat} {l : List Api.Event} {t : Int} (hn : l.length = n) (h : Arr S w a l) (hS : ∀ b, S b → b < w.heap.size) :
    Calls Try.prog 25 #[.slice a n c, .int .i64 t] w (OfPost w l t n) := by
  have HC := Lib.hid (check_any (c := c) (t := t) hn h hS)
  by_cases he : clkErr l t = 0
  · obtain ⟨hl, m, rfl, hm8, hth⟩ := clkErr_zero he
    have HV : Hid (∀ w', Below w.heap.size w w' → Calls Try.prog 40 #[.slice a n c, .int .i64 (m : Nat)] w' (VecPost w' l n m)) := fun w' hb => clocks_any hn (h.keep (fun b hb' => hb.block b (hS b hb'))) (fun b hb' => Nat.lt_of_lt_of_le (hS b hb') hb.size) (by omega) hm8 hth
    have HE := Lib.hid he
    rw [he] at HC
    clear h hn he
    go_enter Try.func25, Try.ntmps25
    go_wp2_with fail
    refine HC.out.mono ?_
    rintro e w1 ⟨rfl, hb⟩
    have HB := Lib.hid hb
    clear hb HC
    go_wp2_with fail
    refine (HV.out _ HB.out).mono ?_
    rintro e w2 ⟨g, rb, rfl, hm, hb⟩
    have HM := Lib.hid (Mat.base hm HB.out.size); have HB2 := Lib.hid (HB.out.trans (hb.mono HB.out.size))
    clear hm hb
    go_wp2_with fail
    go_ret2
    exact .inr ⟨HE.out, m, g, rb, rfl, rfl, HM.out, HB2.out⟩
  · have hd : (clkErr l t != 0) = true := by simpa using he
    obtain ⟨E, hE⟩ : ∃ E, E = clkErr l t := ⟨_, rfl⟩
    unfold OfPost
    rw [← hE] at HC hd he ⊢
    have HE := Lib.hid he
    clear h hn he hE
    go_enter Try.func25, Try.ntmps25
    go_wp2_with fail
    refine HC.out.mono ?_
    rintro e w1 ⟨rfl, hb⟩
    have HB := Lib.hid hb
    clear hb HC
    go_wp2_with fail
    go_ret2
    exact .inl ⟨HE.out, rfl, HB.out⟩
theorem pairErr_zero {l : List Api.Event} {t i j : Int} (h : pairErr l t i j = 0) : clkErr l t = 0 ∧ ∃ p q : Nat, i = (p : Int) ∧ j = (q : Int) ∧ p < l.length ∧ q < l.length := by
  unfold pairErr at h
  split at h
  · omega
  · rename_i hc
    refine ⟨by omega, i.toNat, j.toNat, ?_⟩
    by_cases ho : offB l.length i j = true
    · rw [if_pos ho] at h; omega
    · unfold offB at ho
      simp only [decide_eq_true_eq] at ho
      omega
def befB (l : List Api.Event) (t i j : Int) : Bool := decide (pairErr l t i j = 0) && ahead l j.toNat i.toNat
def aptB (l : List Api.Event) (t i j : Int) : Bool := decide (pairErr l t i j = 0) && (!decide (i = j) && !ahead l j.toNat i.toNat && !ahead l i.toNat j.toNat)
set_option maxRecDepth 100000 in
theorem Before_any {S : Nat → Prop} {w : World} {a : Option Addr} {c n : Nat} {l : List Api.Event} {t i j : Int} (hn : l.length = n) (h : Arr S w a l) (hS : ∀ b, S b → b < w.heap.size) :
    Calls Try.prog 26 #[.slice a n c, .int .i64 t, .int .i64 i, .int .i64 j] w fun e w' => e = .returned (.tuple #[.bool (befB l t i j), .int .i64 (pairErr l t i j)]) ∧ Below w.heap.size w w' := by
  have HC := Lib.hid (pair_any (c := c) (t := t) (i := i) (j := j) hn h hS)
  by_cases he : pairErr l t i j = 0
  · obtain ⟨he0, p, q, rfl, rfl, hp, hq⟩ := pairErr_zero he
    obtain ⟨hl, m, rfl, hm8, hth⟩ := clkErr_zero he0
    rw [hn] at hp hq
    have HR : Hid (befB l m p q = ahead l q p) := by show _ = _; unfold befB; rw [he]; simp
    have HV : Hid (∀ w', Below w.heap.size w w' → Calls Try.prog 40 #[.slice a n c, .int .i64 (m : Nat)] w' (VecPost w' l n m)) := fun w' hb => clocks_any hn (h.keep (fun b hb' => hb.block b (hS b hb'))) (fun b hb' => Nat.lt_of_lt_of_le (hS b hb') hb.size) (by omega) hm8 hth
    have HBE : Hid (∀ (w' : World) (g B H : Nat) (rb : Nat → Nat), Below w.heap.size w w' → Mat w' B H g 28 3 n m n rb (fun k t => (cnt l k t : Nat)) → Calls Try.prog 42 #[.slice a n c, .slice (some ⟨g, 0, none⟩) n n, .int .i64 (p : Nat), .int .i64 (q : Nat)] w' fun e w'' => e = .returned (.bool (ahead l q p)) ∧ Quiet w' w'') :=
      fun w' g B H rb hb hm => before_any hn (h.keep (fun b hb' => hb.block b (hS b hb'))) hm hp hq hth (by omega)
    rw [he] at HC ⊢
    rw [HR.out]
    clear h hn he he0 HR
    go_enter Try.func26, Try.ntmps26
    go_wp2_with fail
    refine HC.out.mono ?_
    rintro e w1 ⟨rfl, hb⟩
    have HB := Lib.hid hb
    clear hb HC
    go_wp2_with fail
    refine (HV.out _ HB.out).mono ?_
    rintro e w2 ⟨g, rb, rfl, hm, hb⟩
    have HB2 := Lib.hid (HB.out.trans (hb.mono HB.out.size))
    have HBQ := Lib.hid (HBE.out w2 g _ _ rb HB2.out hm)
    clear hm hb HBE HV
    go_wp2_with fail
    refine HBQ.out.mono ?_
    rintro e w3 ⟨rfl, hq⟩
    have HB3 := Lib.hid (HB2.out.trans ((hq.below _).mono HB2.out.size))
    clear hq
    go_wp2_with fail
    go_ret2
    exact ⟨rfl, HB3.out⟩
  · have hd : (pairErr l t i j != 0) = true := by simpa using he
    have HR : Hid (befB l t i j = false) := by show _ = _; unfold befB; rw [decide_eq_false he]; rfl
    rw [HR.out]
    obtain ⟨E, hE⟩ : ∃ E, E = pairErr l t i j := ⟨_, rfl⟩
    rw [← hE] at HC hd ⊢
    clear h hn he hE HR
    go_enter Try.func26, Try.ntmps26
    go_wp2_with fail
    refine HC.out.mono ?_
    rintro e w1 ⟨rfl, hb⟩
    have HB := Lib.hid hb
    clear hb HC
    go_wp2_with fail
    go_ret2
    exact ⟨rfl, HB.out⟩
set_option maxRecDepth 100000 in
theorem Apart_any {S : Nat → Prop} {w : World} {a : Option Addr} {c n : Nat} {l : List Api.Event} {t i j : Int} (hn : l.length = n) (h : Arr S w a l) (hS : ∀ b, S b → b < w.heap.size) :
    Calls Try.prog 27 #[.slice a n c, .int .i64 t, .int .i64 i, .int .i64 j] w fun e w' => e = .returned (.tuple #[.bool (aptB l t i j), .int .i64 (pairErr l t i j)]) ∧ Below w.heap.size w w' := by
  have HC := Lib.hid (pair_any (c := c) (t := t) (i := i) (j := j) hn h hS)
  by_cases he : pairErr l t i j = 0
  · obtain ⟨he0, p, q, rfl, rfl, hp, hq⟩ := pairErr_zero he
    obtain ⟨hl, m, rfl, hm8, hth⟩ := clkErr_zero he0
    rw [hn] at hp hq
    have HR : Hid (aptB l m p q = (!decide (p = q) && !ahead l q p && !ahead l p q)) := by show _ = _; unfold aptB; rw [he]; simp [Int.natCast_inj]
    have HV : Hid (∀ w', Below w.heap.size w w' → Calls Try.prog 40 #[.slice a n c, .int .i64 (m : Nat)] w' (VecPost w' l n m)) := fun w' hb => clocks_any hn (h.keep (fun b hb' => hb.block b (hS b hb'))) (fun b hb' => Nat.lt_of_lt_of_le (hS b hb') hb.size) (by omega) hm8 hth
    have HBE : Hid (∀ (w' : World) (g B H : Nat) (rb : Nat → Nat), Below w.heap.size w w' → Mat w' B H g 28 3 n m n rb (fun k t => (cnt l k t : Nat)) → Calls Try.prog 42 #[.slice a n c, .slice (some ⟨g, 0, none⟩) n n, .int .i64 (p : Nat), .int .i64 (q : Nat)] w' fun e w'' => e = .returned (.bool (ahead l q p)) ∧ Quiet w' w'') :=
      fun w' g B H rb hb hm => before_any hn (h.keep (fun b hb' => hb.block b (hS b hb'))) hm hp hq hth (by omega)
    have HBF : Hid (∀ (w' : World) (g B H : Nat) (rb : Nat → Nat), Below w.heap.size w w' → Mat w' B H g 28 3 n m n rb (fun k t => (cnt l k t : Nat)) → Calls Try.prog 42 #[.slice a n c, .slice (some ⟨g, 0, none⟩) n n, .int .i64 (q : Nat), .int .i64 (p : Nat)] w' fun e w'' => e = .returned (.bool (ahead l p q)) ∧ Quiet w' w'') :=
      fun w' g B H rb hb hm => before_any hn (h.keep (fun b hb' => hb.block b (hS b hb'))) hm hq hp hth (by omega)
    rw [he] at HC ⊢
    rw [HR.out]
    obtain ⟨X, hX⟩ : ∃ X, X = ahead l q p := ⟨_, rfl⟩
    obtain ⟨Y, hY⟩ : ∃ Y, Y = ahead l p q := ⟨_, rfl⟩
    rw [← hX] at HBE ⊢
    rw [← hY] at HBF ⊢
    clear h hn he he0 HR hX hY
    obtain ⟨Z, hZ⟩ : ∃ Z, Z = decide (p = q) := ⟨_, rfl⟩
    have hpq : (((p : Int) != (q : Int)) = true ∧ Z = false) ∨ (((p : Int) != (q : Int)) = false ∧ Z = true) := by rw [hZ]; by_cases h : p = q <;> simp [h] <;> omega
    rw [← hZ]
    clear hZ
    go_enter Try.func27, Try.ntmps27
    go_wp2_with fail
    refine HC.out.mono ?_
    rintro e w1 ⟨rfl, hb⟩
    have HB := Lib.hid hb
    clear hb HC
    go_wp2_with fail
    refine (HV.out _ HB.out).mono ?_
    rintro e w2 ⟨g, rb, rfl, hm, hb⟩
    have HB2 := Lib.hid (HB.out.trans (hb.mono HB.out.size))
    have HBQ := Lib.hid (HBE.out w2 g _ _ rb HB2.out hm)
    have HBR : Hid (∀ w3, Quiet w2 w3 → Calls Try.prog 42 #[.slice a n c, .slice (some ⟨g, 0, none⟩) n n, .int .i64 (q : Nat), .int .i64 (p : Nat)] w3 fun e w'' => e = .returned (.bool Y) ∧ Quiet w3 w'') := fun w3 hq => HBF.out w3 g _ _ rb (HB2.out.trans ((hq.below _).mono HB2.out.size)) (hm.keep fun b _ _ => hq.heap b)
    clear hm hb HBE HBF HV
    rcases hpq with ⟨d, hdd⟩ | ⟨d, hdd⟩
    · subst hdd
      go_wp2_with fail
      refine HBQ.out.mono ?_
      rintro e w3 ⟨rfl, hq⟩
      have HB3 := Lib.hid (HB2.out.trans ((hq.below _).mono HB2.out.size))
      have HBR2 := Lib.hid (HBR.out w3 hq)
      clear hq HBR HBQ
      cases X with
      | true =>
        go_wp2_with fail
        go_ret2
        exact ⟨rfl, HB3.out⟩
      | false =>
        go_wp2_with fail
        refine HBR2.out.mono ?_
        rintro e w4 ⟨rfl, hq⟩
        have HB4 := Lib.hid (HB3.out.trans ((hq.below _).mono HB3.out.size))
        clear hq
        go_wp2_with fail
        go_ret2
        exact ⟨rfl, HB4.out⟩
    · subst hdd
      go_wp2_with fail
      go_ret2
      exact ⟨rfl, HB2.out⟩
  · have hd : (pairErr l t i j != 0) = true := by simpa using he
    have HR : Hid (aptB l t i j = false) := by show _ = _; unfold aptB; rw [decide_eq_false he]; rfl
    rw [HR.out]
    obtain ⟨E, hE⟩ : ∃ E, E = pairErr l t i j := ⟨_, rfl⟩
    rw [← hE] at HC hd ⊢
    clear h hn he hE HR
    go_enter Try.func27, Try.ntmps27
    go_wp2_with fail
    refine HC.out.mono ?_
    rintro e w1 ⟨rfl, hb⟩
    have HB := Lib.hid hb
    clear hb HC
    go_wp2_with fail
    go_ret2
    exact ⟨rfl, HB.out⟩
end Go.Proofs.Ytffebdngmbbcoaa.clk
