/- ThinTells: kept, IsKept, ThinKept, walked. -/
import Derived.Test.YtffebdngmbbcoaaThinPlain
import Derived.Test.YtffebdngmbbcoaaSortI
import Derived.Test.YtffebdngmbbcoaaMax
import Derived.Test.YtffebdngmbbcoaaApp
import Derived.Test.YtffebdngmbbcoaaFuncsG
set_option linter.unusedVariables false
set_option linter.unusedSimpArgs false
namespace Go.Proofs.Ytffebdngmbbcoaa.thin
open Go.Bk Go.RowKit Go.Bk.srt

theorem int_cells {x : Int} (h : I64 x) (S : Nat → Prop) (w : World) : Rep.cells (α := Int) S w [.int .i64 x] x := ⟨rfl, h⟩
def isRel (w : World) (k n : Nat) (v5 : Value) (w' : World) : Prop := ∃ i : Nat, i ≤ pows n ∧ v5 = .int .i64 ((2 ^ i : Nat) : Int) ∧ hitTo k n i = false ∧ w = w'
theorem two_dbl (i : Nat) : ((2 ^ (i + 1) : Nat) : Int) = ((2 ^ i : Nat) : Int) + ((2 ^ i : Nat) : Int) := by rw [Nat.pow_succ]; omega
set_option maxRecDepth 100000 in
theorem isKept_any (w : World) {k n : Nat} (hn : n ≤ 4000) (hk : k ≤ 4000) :
    Calls Try.prog 20 #[.int .i64 (k : Nat), .int .i64 (n : Nat)] w fun e w' => e = .returned (.bool (isKept k n)) ∧ w = w' := by
  by_cases h0 : k = 0
  · have HR : Hid (isKept k n = true) := by show _ = _; unfold isKept; rw [decide_eq_true (.inl h0)]; rfl
    subst h0
    go_enter Try.func20, Try.ntmps20
    go_wp2
    go_ret
    exact ⟨by rw [HR.out]; rfl, rfl⟩
  · by_cases h1 : k = n
    · have HR : Hid (isKept k n = true) := by show _ = _; unfold isKept; rw [decide_eq_true (.inr h1)]; rfl
      subst h1
      have d0 : (((k : Nat) : Int) == 0) = false := by simp; omega
      clear h0
      go_enter Try.func20, Try.ntmps20
      go_wp2
      go_ret
      exact ⟨by rw [HR.out]; rfl, rfl⟩
    · have HR : Hid (isKept k n = hitTo k n (pows n)) := by show _ = _; unfold isKept; rw [decide_eq_false (by omega), Bool.false_or]
      have d0 : (((k : Nat) : Int) == 0) = false := by simp; omega
      have d1 : (((k : Nat) : Int) == ((n : Nat) : Int)) = false := by simp; omega
      clear h0 h1
      go_enter Try.func20, Try.ntmps20
      go_wp2
      go_loopw [5] (isRel w k n) (fun i _ => 2 * n + 1 - (intOf i).toNat)
      case atStart => exact ⟨0, Nat.zero_le _, rfl, rfl, rfl⟩
      case round =>
        obtain ⟨i, hi, rfl, hno, rfl⟩ := hrel
        have HNO := Lib.hid hno
        have HD := Lib.hid (two_dbl i)
        clear hno
        by_cases hlt : i < pows n
        · have hp := pows_le hlt
          have hp0 : 0 < 2 ^ i := Nat.two_pow_pos i
          have HH : Hid (hitTo k n (i + 1) = (hitTo k n i || hit k n i)) := rfl
          have HHI : Hid (hit k n i = decide (k % 2 ^ i = 0 ∧ n < k + 2 ^ i + 2 ^ i)) := rfl
          rw [HNO.out, Bool.false_or] at HH
          obtain ⟨p, hpe⟩ : ∃ p, p = 2 ^ i := ⟨_, rfl⟩
          rw [← hpe] at hp hp0 HD HHI ⊢
          have HP := Lib.hid hpe
          clear hpe
          by_cases hm : k % p = 0
          · have d2 : (((k : Nat) : Int) % ((p : Nat) : Int) == 0) = true := by simp; omega
            by_cases hg : n < k + p + p
            · have d3 : decide (((n : Nat) : Int) < ((k : Nat) : Int) + ((p : Nat) : Int) + ((p : Nat) : Int)) = true := by simp; omega
              have HT : Hid (isKept k n = true) := by
                show _ = _
                rw [HR.out]
                exact hitTo_iff.2 ⟨i, hlt, by rw [HHI.out]; exact decide_eq_true ⟨hm, hg⟩⟩
              clear hm hg
              go_wp2
              go_ret
              exact ⟨by rw [HT.out]; rfl, rfl⟩
            · have d3 : decide (((n : Nat) : Int) < ((k : Nat) : Int) + ((p : Nat) : Int) + ((p : Nat) : Int)) = false := by simp; omega
              have HF : Hid (hitTo k n (i + 1) = false) := by show _ = _; rw [HH.out, HHI.out]; exact decide_eq_false (fun h => hg h.2)
              clear hm hg
              go_wp2
              go_roundw
              case rel => exact ⟨i + 1, by omega, by rw [HD.out], HF.out, rfl⟩
              case measure => simp [intOf]; omega
          · have d2 : (((k : Nat) : Int) % ((p : Nat) : Int) == 0) = false := by simp; omega
            have HF : Hid (hitTo k n (i + 1) = false) := by show _ = _; rw [HH.out, HHI.out]; exact decide_eq_false (fun h => hm h.1)
            clear hm
            go_wp2
            go_roundw
            case rel => exact ⟨i + 1, by omega, by rw [HD.out], HF.out, rfl⟩
            case measure => simp [intOf]; omega
        · obtain rfl : i = pows n := by omega
          have hp := pows_gt n
          obtain ⟨p, hpe⟩ : ∃ p, p = 2 ^ pows n := ⟨_, rfl⟩
          rw [← hpe] at hp ⊢
          clear hpe HD
          go_wp2
          go_ret
          exact ⟨by rw [HR.out, HNO.out]; rfl, rfl⟩
/-- What is handed back: a list of one's own. -/
def ListPost (w : World) (l : List Int) (e : Ending) (w' : World) : Prop := ∃ v, e = .returned v ∧ Own (fun _ => False) w' w.heap.size 3 v l ∧ Below w.heap.size w w'
def tkRel (w : World) (n : Nat) (v3 v4 : Value) (w' : World) : Prop := ∃ i : Nat, i ≤ n + 1 ∧ v4 = .int .i64 i ∧ Own (fun _ => False) w' w.heap.size 3 v3 (keptTo n i) ∧ Below w.heap.size w w'
set_option maxRecDepth 100000 in
set_option maxHeartbeats 1000000 in
theorem thinKept_any (w : World) {n : Nat} (hn : n ≤ 4000) : Calls Try.prog 18 #[.int .i64 (n : Nat)] w (ListPost w (keptL n)) := by
  go_enter Try.func18, Try.ntmps18
  go_wp2
  go_loopw [3, 4] (tkRel w n) (fun _ i _ => n + 1 - (intOf i).toNat)
  case atStart => exact ⟨0, Nat.zero_le _, rfl, Own.nil _ _ _ _, Below.refl _ _⟩
  case round =>
    obtain ⟨i, hi, rfl, hown, hb⟩ := hrel
    have HO := Lib.hid hown; have HB := Lib.hid hb
    have hbs := hb.size
    have hkl := keptTo_len n i
    have HS := Lib.hid (keptTo_succ n i)
    clear hown hb
    by_cases hlt : i ≤ n
    · have HC := Lib.hid (isKept_any wr (n := n) (k := i) hn (by omega))
      cases hk : isKept i n with
      | true =>
        rw [hk] at HC HS
        clear hk
        go_wp2_with (first
          | (go_at_call 20; (with_reducible refine HC.out.mono ?_); rintro e w' ⟨rfl, rfl⟩)
          | ((at_builtin; with_reducible refine Try.wp_app28 rfl rfl rfl rfl rfl (by first | rfl | simp) (HO.out) (int_cells (by unfold I64; omega) _ _) (fun _ h => h.elim) (by omega) (by first | omega | (simp; omega)) fun v' w' hown' hg' => ?_); have HO' := Lib.hid hown'; have HBW := Lib.hid (HB.out.grown hg' hbs (fun r hr => (HO.out.lt r hr).1)); clear hown' hg'))
        go_roundw
        case rel => exact ⟨i + 1, by omega, by go_num, by rw [HS.out]; exact HO'.out, HBW.out⟩
        case measure => simp [intOf]; omega
      | false =>
        rw [hk] at HC HS
        clear hk
        go_wp2_with (go_at_call 20; (with_reducible refine HC.out.mono ?_); rintro e w' ⟨rfl, rfl⟩)
        go_roundw
        case rel => exact ⟨i + 1, by omega, by go_num, by rw [HS.out]; simpa using HO.out, HB.out⟩
        case measure => simp [intOf]; omega
    · obtain rfl : i = n + 1 := by omega
      go_wp2
      go_ret
      exact ⟨_, rfl, HO.out, HB.out⟩
def kpRel (w : World) (n : Nat) (v3 v4 : Value) (w' : World) : Prop := ∃ i : Nat, i ≤ pows n ∧ v4 = .int .i64 ((2 ^ i : Nat) : Int) ∧ Own (fun _ => False) w' w.heap.size 3 v3 (rawTo n i) ∧ Below w.heap.size w w'
theorem two_mul (i : Nat) : ((2 ^ (i + 1) : Nat) : Int) = ((2 ^ i : Nat) : Int) * 2 := by rw [Nat.pow_succ]; omega
theorem blk_ints2 {w : World} {g : Nat} {e : TypeId} {x y : Int} (h : Blk w g e [.int .i64 x, .int .i64 y]) (hx : I64 x) (hy : I64 y) : Arr (fun b => b = g) w (some ⟨g, 0, none⟩) [x, y] := by
  refine ⟨by unfold maxLen; simp, .inr ⟨g, 0, rfl, rfl, fun k z hk => ?_⟩⟩
  have hk2 : k = 0 ∨ k = 1 := by have := (List.getElem?_eq_some_iff.1 hk).1; simp at this; omega
  rcases hk2 with rfl | rfl
  · simp at hk; subst hk
    refine ⟨[_], ⟨rfl, hx⟩, fun j hj => ?_⟩
    have hj0 : j = 0 := by have : j < 1 := hj; omega
    subst hj0
    exact h.cell rfl
  · simp at hk; subst hk
    refine ⟨[_], ⟨rfl, hy⟩, fun j hj => ?_⟩
    have hj0 : j = 0 := by have : j < 1 := hj; omega
    subst hj0
    exact h.cell rfl
set_option maxRecDepth 100000 in
set_option maxHeartbeats 1000000 in
theorem kept_any (w : World) {n : Nat} (hn : n ≤ 4000) : Calls Try.prog 34 #[.int .i64 (n : Nat)] w (ListPost w (keptL n)) := by
  have HO0 : Hid (Own (fun _ => False) (w.alloc (.cells #[.int .i64 0, .int .i64 (n : Nat)] 3)) w.heap.size 3 (.slice (some ⟨w.heap.size, 0, none⟩) 2 2) (rawTo n 0)) := by
    refine own_of_cells (Nat.le_refl _) (blk_new w [.int .i64 0, .int .i64 (n : Nat)] 3) rfl (Nat.le_refl _) (by unfold maxLen; omega) rfl rfl (fun z hz => ?_)
    simp [rawTo] at hz
    unfold I64
    omega
  go_enter Try.func34, Try.ntmps34
  go_wp2
  go_loopw [3, 4] (kpRel w n) (fun _ i _ => 2 * n + 1 - (intOf i).toNat)
  case atStart => exact ⟨0, Nat.zero_le _, rfl, HO0.out, (Below.refl _ _).alloc (Nat.le_refl _) _⟩
  case round =>
    clear HO0
    obtain ⟨i, hi, rfl, hown, hb⟩ := hrel
    have HO := Lib.hid hown; have HB := Lib.hid hb
    have hbs := hb.size
    have HRL := Lib.hid (rawTo_len n i)
    have HD := Lib.hid (two_mul i)
    have hp13 := pows_13 hn
    clear hown hb
    by_cases hlt : i < pows n
    · have hp := pows_le hlt
      have hp0 : 0 < 2 ^ i := Nat.two_pow_pos i
      have HS : Hid (rawTo n (i + 1) = rawTo n i ++ [((n - n % 2 ^ i : Nat) : Int), ((n - n % 2 ^ i - 2 ^ i : Nat) : Int)]) := rfl
      obtain ⟨p, hpe⟩ : ∃ p, p = 2 ^ i := ⟨_, rfl⟩
      rw [← hpe] at hp hp0 HD HS ⊢
      clear hpe
      have hmod := Nat.mod_lt n hp0
      have hmle : p ≤ n - n % p := by
        have h1 := Nat.div_add_mod n p
        have h2 : 1 ≤ n / p := Nat.div_pos hp hp0
        have h3 : p * 1 ≤ p * (n / p) := Nat.mul_le_mul_left _ h2
        omega
      obtain ⟨q, hq⟩ : ∃ q, q = n - n % p := ⟨_, rfl⟩
      have hqe : (n : Int) - (n : Int) % (p : Int) = (q : Int) := by rw [hq]; omega
      have hq4 : q ≤ 4000 := by omega
      rw [← hq] at HS hmle
      have HMX : Hid ((if (0 : Int) < (q : Int) - (p : Int) then (q : Int) - (p : Int) else 0) = ((q - p : Nat) : Int)) := by show _ = _; split <;> omega
      have HOA : Hid (Own (fun _ => False) (wr.alloc (.cells #[.int .i64 (q : Nat), .int .i64 ((q - p : Nat) : Int)] 3)) w.heap.size 3 u3 (rawTo n i)) := HO.out.alloc _ (fun _ h => h.elim)
      have HAA : Hid (Arr (fun b => b = wr.heap.size) (wr.alloc (.cells #[.int .i64 (q : Nat), .int .i64 ((q - p : Nat) : Int)] 3)) (some ⟨wr.heap.size, 0, none⟩) [(q : Int), ((q - p : Nat) : Int)]) := blk_ints2 (blk_new wr [.int .i64 (q : Nat), .int .i64 ((q - p : Nat) : Int)] 3) (by unfold I64; omega) (by unfold I64; omega)
      clear hq hmod
      go_wp2_with (first
        | (with_reducible refine wp_max_int rfl rfl rfl rfl HMX.out ?_)
        | (at_builtin; go_loud ((at_builtin; with_reducible refine Try.wp_apps28 rfl rfl rfl rfl (rfl) (HOA.out) (HAA.out) Try.flat28 ((fun h => by cases h)) (fun _ h => h.elim) (by (rw [HRL.out]; simp only [List.length_cons, List.length_nil]; omega)) (by (simp; omega)) fun v' w' hown' hg' => ?_); have HO' := Lib.hid hown'; have HBW := Lib.hid ((HB.out.alloc hbs _).grown hg' (by simp; omega) (fun r hr => (HO.out.lt r hr).1)); clear hown' hg')))
      go_roundw
      case rel => exact ⟨i + 1, by omega, by rw [HD.out], by rw [HS.out]; exact HO'.out, HBW.out⟩
      case measure => simp [intOf]; omega
    · obtain rfl : i = pows n := by omega
      have hp := pows_gt n
      obtain ⟨p, hpe⟩ : ∃ p, p = 2 ^ pows n := ⟨_, rfl⟩
      rw [← hpe] at hp ⊢
      clear hpe HD
      have HSO := Lib.hid (sortI_any HO.out (by rw [HRL.out]; omega))
      go_wp2_with fail
      refine HSO.out.mono ?_
      rintro e w1 ⟨rfl, ho1, hg1⟩
      have HB1 := Lib.hid (HB.out.grown hg1 hbs (fun r hr => (HO.out.lt r hr).1))
      have HCO := Lib.hid (compactI_any ho1 (by rw [sortI_len, HRL.out]; omega))
      have HO1 := Lib.hid ho1
      have HR := Lib.hid (setI_raw n)
      clear ho1 hg1 HSO
      go_wp2_with fail
      refine HCO.out.mono ?_
      rintro e w2 ⟨v2, rfl, ho2, hg2, -⟩
      have HB2 := Lib.hid (HB1.out.grown hg2 HB1.out.size (fun r hr => (HO1.out.lt r hr).1))
      have HO2 := Lib.hid ho2
      clear ho2 hg2
      go_wp2_with fail
      go_ret
      exact ⟨_, rfl, by rw [← HR.out]; exact HO2.out, HB2.out⟩
end Go.Proofs.Ytffebdngmbbcoaa.thin
