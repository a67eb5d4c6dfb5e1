/- What was in a slot: the program's first event that does not fit, walked. -/
import Derived.Test.YtfdpannanpipdaaWatchE
set_option linter.unusedVariables false
set_option linter.unusedSimpArgs false
namespace Go.Proofs.Ytfdpannanpipdaa.watch
open Go.Bk Go.RowKit Go.Maps

theorem laidOut : laidOutB Try.prog = true := by kernel_rfl
theorem types_size : (Try.prog.types.size == 0) = false := by kernel_rfl
theorem slot_reads (a b : Int) (ha : I64 a) (hb : I64 b) : keyOf Try.prog 108 (slotV a b) = some (.string (keyBytes [.int .i64 a, .int .i64 b])) := by
  have hk : Try.prog.keyType 108 = true := by kernel_rfl
  have hf : (slotV a b).formed Try.prog 108 = true := by
    unfold Value.formed
    rw [Try.underlying108]
    simp
    kernel_rfl
  unfold keyOf
  rw [Try.underlying108]
  simp only [hk, hf, Bool.and_self, if_true]
  obtain ⟨n, hn⟩ : ∃ n, Try.prog.types.size = n + 1 := by
    have := types_size
    cases h : Try.prog.types.size with
    | zero => rw [h] at this; cases this
    | succ n => exact ⟨n, rfl⟩
  rw [hn]
  have h1 : Try.prog.cellsOf 108 = 2 := by kernel_rfl
  have h2 : Try.prog.cellsOf 3 = 1 := by kernel_rfl
  simp [Program.keyLits, Try.underlying108, Try.underlying3, h1, h2, ha.wf, hb.wf, Value.cells]
def slotKey : KeyT Try.prog 108 (Int × Int) where
  val s := slotV s.1 s.2
  lit s := .string (keyBytes [.int .i64 s.1, .int .i64 s.2])
  good s := I64 s.1 ∧ I64 s.2
  keyed := Keyed.of_law (deep_law_gate laidOut (of_decide_eq_true (by kernel_rfl)) (of_decide_eq_true (by kernel_rfl)) (by kernel_rfl) (by kernel_rfl))
  reads s h := slot_reads s.1 s.2 h.1 h.2
  inj s s' h := by
    obtain ⟨a, b⟩ := s
    obtain ⟨c, d⟩ := s'
    simp at h
    rw [h.1, h.2]
theorem slotKey_val (a b : Int) : slotV a b = slotKey.val (a, b) := rfl
theorem below_grown {w W w' : World} {g : Nat} (h : Below w.heap.size w W) (hg : W.grownBy w' (some g)) (hle : w.heap.size ≤ g) : Below w.heap.size w w' := h.grown hg h.size (fun r hr => by cases hr; exact hle)
theorem zero_val (w : World) : (zeroValue 24).run Try.prog w = .ok (.agg #[.int .i64 0, .int .i64 0]) w := by kernel_rfl
def progWhole (l : List Api.Event) : Int := if 200 < l.length then -1 else wholeOf l
abbrev SMap (w : World) (g n : Nat) (f : Int × Int → Option Value) : Prop := GMap slotKey w g n f

set_option maxRecDepth 100000 in
set_option maxHeartbeats 4000000 in
theorem Whole_any {S : Nat → Prop} {w : World} {a : Option Addr} {c n : Nat} {l : List Api.Event} (hn : l.length = n) (h : Arr S w a l) (hS : ∀ b, S b → b < w.heap.size) :
    Calls Try.prog 14 #[.slice a n c] w fun e w' => e = .returned (.tuple #[.int .i64 (max (progWhole l) 0), .bool (decide (0 ≤ progWhole l)), .int .i64 (errE n 0)]) ∧ Below w.heap.size w w' := by
  have hsm := h.small
  rw [hn] at hsm
  unfold maxLen at hsm
  have HN := Lib.hid hn
  have HA : Hid (∀ w', Below w.heap.size w w' → Arr S w' a l) := fun w' hb => h.keep (fun b hb' => hb.block b (hS b hb'))
  clear hn h hS
  have HC := Lib.hid (check_any w a n c 0 (by omega))
  obtain ⟨E, hE⟩ : ∃ E, E = errE n 0 := ⟨_, rfl⟩
  rw [← hE] at HC ⊢
  by_cases hl : 200 < n
  · have e2 : E = 2 := by rw [hE]; unfold errE; rw [if_pos hl]
    have HPW : Hid (progWhole l = -1) := by show _ = _; unfold progWhole; rw [if_pos (by rw [HN.out]; exact hl)]
    clear hE
    subst e2
    go_enter Try.func14, Try.ntmps14
    go_wp2_with (with_reducible refine HC.out.mono ?_; rintro e w' ⟨rfl, rfl⟩)
    go_ret3
    rw [HPW.out]
    exact ⟨rfl, Below.refl _ _⟩
  · have e2 : E = 0 := by rw [hE]; unfold errE; rw [if_neg hl, if_neg (by omega)]
    have HPW : Hid (progWhole l = wholeOf l) := by show _ = _; unfold progWhole; rw [if_neg (by rw [HN.out]; exact hl)]
    clear hE
    subst e2
    go_enter Try.func14, Try.ntmps14
    have hmm := @run_makeMap Try.prog
    go_wp2_with (with_reducible refine HC.out.mono ?_; rintro e w' ⟨rfl, rfl⟩)
    clear hmm
    have HM0 : Hid (SMap (w.alloc (.map #[] 0)) w.heap.size 0 (slots l 0)) := (GMap.made slotKey w).congr (fun x => rfl)
    go_loopw [22] (fun i w' => ∃ k : Nat, k ≤ n ∧ i = .int .i64 k ∧ noneBad l k ∧ SMap w' w.heap.size k (slots l k) ∧ Below w.heap.size w w') (fun i _ => n - (intOf i).toNat)
    case atStart => exact ⟨0, Nat.zero_le _, rfl, fun j hj => by omega, HM0.out, (Below.refl _ _).alloc (Nat.le_refl _) _⟩
    case round =>
      obtain ⟨k, hk, rfl, hnb, hm, hb⟩ := hrel
      have HNB := Lib.hid hnb; have HB := Lib.hid hb; have HM := Lib.hid hm
      have hbs := hb.size
      have hml := hm.lt
      clear hnb hb hm HM0
      by_cases hlt : k < n
      · obtain ⟨x, hx⟩ : ∃ x, l[k]? = some x := ⟨_, List.getElem?_eq_getElem (by have := HN.out; omega)⟩
        have HBA := Lib.hid (bad_at hx)
        have HX := Lib.hid hx
        obtain ⟨b1, o1, rfl, -, q0, q1, q2, q3, q4, q5, q6, q7, q8, q9, q10, q11, i0, i1, i2, i3, i4, i5, i6, i7, -⟩ := api_Event_elem (HA.out _ HB.out) hx
        clear hx
        have hk9 : k < 1000000000 := by omega
        have HGD : Hid (slotKey.good (x.A, x.B)) := ⟨i6, i7⟩
        have HOF : Hid (∀ w, Calls Try.prog 65 #[evV x] w fun e w' => e = .returned (.tuple #[slotV x.A x.B, .bool (isRW x)]) ∧ Below w.heap.size w w') := fun w => of_any w x
        have HAF : Hid (∀ w1, Below (wr.alloc (.cells #[.int .i64 x.Kind, .int .i64 x.Step, .int .i64 x.Thread, .int .i64 x.Fn, .int .i64 x.At, .int .i64 x.Line, .int .i64 x.A, .int .i64 x.B, .int .i64 x.Val.Kind, .int .i64 x.Val.N, .int .i64 x.Old.Kind, .int .i64 x.Old.N] 41)).heap.size (wr.alloc (.cells #[.int .i64 x.Kind, .int .i64 x.Step, .int .i64 x.Thread, .int .i64 x.Fn, .int .i64 x.At, .int .i64 x.Line, .int .i64 x.A, .int .i64 x.B, .int .i64 x.Val.Kind, .int .i64 x.Val.N, .int .i64 x.Old.Kind, .int .i64 x.Old.N] 41)) w1 → Below w.heap.size w w1 ∧
            w1.cell? ⟨wr.heap.size, 0, none⟩ = some (.int .i64 x.Kind) ∧ w1.cell? ⟨wr.heap.size, 8, none⟩ = some (.int .i64 x.Val.Kind) ∧ w1.cell? ⟨wr.heap.size, 9, none⟩ = some (.int .i64 x.Val.N) ∧ w1.cell? ⟨wr.heap.size, 10, none⟩ = some (.int .i64 x.Old.Kind) ∧ w1.cell? ⟨wr.heap.size, 11, none⟩ = some (.int .i64 x.Old.N) ∧
            (∀ o j, (w1.alloc o).cell? ⟨wr.heap.size, j, none⟩ = w1.cell? ⟨wr.heap.size, j, none⟩) ∧ (∀ o o' j, ((w1.alloc o).alloc o').cell? ⟨wr.heap.size, j, none⟩ = w1.cell? ⟨wr.heap.size, j, none⟩) ∧ (∀ o o' o'' j, (((w1.alloc o).alloc o').alloc o'').cell? ⟨wr.heap.size, j, none⟩ = w1.cell? ⟨wr.heap.size, j, none⟩) ∧
            (∀ o o', SMap ((w1.alloc o).alloc o') w.heap.size k (slots l k)) ∧ (∀ o o' o'', SMap (((w1.alloc o).alloc o').alloc o'') w.heap.size k (slots l k))) := fun w1 hb' => by
          have hsz := hb'.size
          have hsz2 : wr.heap.size < w1.heap.size := by simp at hsz; omega
          have hv : Blk w1 wr.heap.size 41 [.int .i64 x.Kind, .int .i64 x.Step, .int .i64 x.Thread, .int .i64 x.Fn, .int .i64 x.At, .int .i64 x.Line, .int .i64 x.A, .int .i64 x.B, .int .i64 x.Val.Kind, .int .i64 x.Val.N, .int .i64 x.Old.Kind, .int .i64 x.Old.N] := (blk_new wr [.int .i64 x.Kind, .int .i64 x.Step, .int .i64 x.Thread, .int .i64 x.Fn, .int .i64 x.At, .int .i64 x.Line, .int .i64 x.A, .int .i64 x.B, .int .i64 x.Val.Kind, .int .i64 x.Val.N, .int .i64 x.Old.Kind, .int .i64 x.Old.N] 41).keep (hb'.block _ (by simp))
          have hm1 : SMap w1 w.heap.size k (slots l k) := (HM.out.boxed _).below hb'
          have hal : ∀ (W : World) (o : Obj) (j : Nat), wr.heap.size < W.heap.size → (W.alloc o).cell? ⟨wr.heap.size, j, none⟩ = W.cell? ⟨wr.heap.size, j, none⟩ := fun W o j h => ((Below.refl _ _).alloc (Nat.le_refl _) o).cell (p := ⟨wr.heap.size, j, none⟩) h
          exact ⟨(below_new HB.out _).trans (hb'.mono (by simp; omega)), hv.cell rfl, hv.cell rfl, hv.cell rfl, hv.cell rfl, hv.cell rfl, fun o j => hal _ o j hsz2, fun o o' j => (hal _ o' j (by simp; omega)).trans (hal _ o j hsz2), fun o o' o'' j => (hal _ o'' j (by simp; omega)).trans ((hal _ o' j (by simp; omega)).trans (hal _ o j hsz2)),
            fun o o' => (hm1.boxed o).boxed o', fun o o' o'' => ((hm1.boxed o).boxed o').boxed o''⟩
        cases hr : isRW x with
        | true =>
          have HRW := Lib.hid hr
          rw [hr] at HOF
          have hk34 : x.Kind = 3 ∨ x.Kind = 4 := by simpa [isRW] using hr
          clear hr
          rcases hk34 with e3 | e4
          · skip
            have d4 : (x.Kind == 4) = false := by simp [e3]
            have HT : Hid (told x = x.Val) := by show _ = _; unfold told; rw [if_neg (by omega)]
            clear e3
            cases hkn : known l x.A x.B k with
            | none =>
              have HBF : Hid (bad l k = false) := by show _ = _; rw [HBA.out, hkn]; simp
              have HSL : Hid (slots l k (x.A, x.B) = none) := by show _ = _; unfold slots; rw [hkn]; rfl
              clear hkn
              go_wp2_with (first | (go_at_call 65; with_reducible refine (HOF.out _).mono ?_; rintro e w1 ⟨rfl, hb'⟩; obtain ⟨hb1, p0, p8, p9, p10, p11, l1, l2, l3, hm2, hm3⟩ := HAF.out _ hb'; have HB1 := Lib.hid hb1; have HM2 := Lib.hid hm2; have HM3 := Lib.hid hm3; have hs1 := hb1.size; clear hb' hb1 hm2 hm3) | (at_lookup; with_reducible refine wp_gmap_getok rfl rfl Try.underlying115 (zero_val _) rfl (HM2.out _ _) (k := (x.A, x.B)) (Eq.trans (b := slotV x.A x.B) rfl (slotKey_val x.A x.B)) HGD.out ?_; rw [HSL.out]) | (at_mapUpdate; (with_reducible refine wp_gmap_put rfl rfl Try.underlying115 rfl (HM3.out _ _ _) hk9 (k := (x.A, x.B)) (Eq.trans (b := slotV x.A x.B) rfl (slotKey_val x.A x.B)) rfl HGD.out fun w' hm' hg' => ?_); have HM' := Lib.hid hm'; have HG' := Lib.hid hg'; clear hm' hg'))
              go_roundw
              case rel => exact ⟨k + 1, by omega, by go_num, HNB.out.succ HBF.out, HM'.out.congr (fun z => slots_put HX.out HRW.out z), below_grown (by repeat (first | exact HB1.out | refine below_new ?_ _ | refine below_set ?_ (by omega) _ | refine below_drew ?_)) HG'.out (Nat.le_refl _)⟩
              case measure => simp [intOf]; omega
            | some v =>
              have HSL : Hid (slots l k (x.A, x.B) = some (valV v)) := by show _ = _; unfold slots; rw [hkn]; rfl
              by_cases hv1 : v = x.Val
              · have HBF : Hid (bad l k = false) := by show _ = _; rw [HBA.out, hkn, HT.out]; simp [hv1]
                subst hv1
                clear hkn
                go_wp2_with (first | (go_at_call 65; with_reducible refine (HOF.out _).mono ?_; rintro e w1 ⟨rfl, hb'⟩; obtain ⟨hb1, p0, p8, p9, p10, p11, l1, l2, l3, hm2, hm3⟩ := HAF.out _ hb'; have HB1 := Lib.hid hb1; have HM2 := Lib.hid hm2; have HM3 := Lib.hid hm3; have hs1 := hb1.size; clear hb' hb1 hm2 hm3) | (at_lookup; with_reducible refine wp_gmap_getok rfl rfl Try.underlying115 (zero_val _) rfl (HM2.out _ _) (k := (x.A, x.B)) (Eq.trans (b := slotV x.A x.B) rfl (slotKey_val x.A x.B)) HGD.out ?_; rw [HSL.out]) | (at_mapUpdate; (with_reducible refine wp_gmap_put rfl rfl Try.underlying115 rfl (HM3.out _ _ _) hk9 (k := (x.A, x.B)) (Eq.trans (b := slotV x.A x.B) rfl (slotKey_val x.A x.B)) rfl HGD.out fun w' hm' hg' => ?_); have HM' := Lib.hid hm'; have HG' := Lib.hid hg'; clear hm' hg'))
                go_roundw
                case rel => exact ⟨k + 1, by omega, by go_num, HNB.out.succ HBF.out, HM'.out.congr (fun z => slots_put HX.out HRW.out z), below_grown (by repeat (first | exact HB1.out | refine below_new ?_ _ | refine below_set ?_ (by omega) _ | refine below_drew ?_)) HG'.out (Nat.le_refl _)⟩
                case measure => simp [intOf]; omega
              · have HBF : Hid (bad l k = true) := by show _ = _; rw [HBA.out, hkn, HT.out, HRW.out]; simp [hv1]
                have HWW := Lib.hid (wholeOf_at (by rw [HN.out]; exact hlt) HNB.out HBF.out)
                clear hkn
                by_cases hk1 : v.Kind = x.Val.Kind
                · have hn1 : ¬ v.N = x.Val.N := fun e => hv1 (by cases v; cases h9 : x.Val; simp [h9] at hk1 e ⊢; exact ⟨hk1, e⟩)
                  clear hv1
                  go_wp2_with (first | (go_at_call 65; with_reducible refine (HOF.out _).mono ?_; rintro e w1 ⟨rfl, hb'⟩; obtain ⟨hb1, p0, p8, p9, p10, p11, l1, l2, l3, hm2, hm3⟩ := HAF.out _ hb'; have HB1 := Lib.hid hb1; have HM2 := Lib.hid hm2; have HM3 := Lib.hid hm3; have hs1 := hb1.size; clear hb' hb1 hm2 hm3) | (at_lookup; with_reducible refine wp_gmap_getok rfl rfl Try.underlying115 (zero_val _) rfl (HM2.out _ _) (k := (x.A, x.B)) (Eq.trans (b := slotV x.A x.B) rfl (slotKey_val x.A x.B)) HGD.out ?_; rw [HSL.out]) | (at_mapUpdate; (with_reducible refine wp_gmap_put rfl rfl Try.underlying115 rfl (HM3.out _ _ _) hk9 (k := (x.A, x.B)) (Eq.trans (b := slotV x.A x.B) rfl (slotKey_val x.A x.B)) rfl HGD.out fun w' hm' hg' => ?_); have HM' := Lib.hid hm'; have HG' := Lib.hid hg'; clear hm' hg'))
                  go_ret3
                  rw [HPW.out, HWW.out]
                  exact ⟨by simp, by repeat (first | exact HB1.out | refine below_new ?_ _ | refine below_set ?_ (by omega) _ | refine below_drew ?_)⟩
                · clear hv1
                  go_wp2_with (first | (go_at_call 65; with_reducible refine (HOF.out _).mono ?_; rintro e w1 ⟨rfl, hb'⟩; obtain ⟨hb1, p0, p8, p9, p10, p11, l1, l2, l3, hm2, hm3⟩ := HAF.out _ hb'; have HB1 := Lib.hid hb1; have HM2 := Lib.hid hm2; have HM3 := Lib.hid hm3; have hs1 := hb1.size; clear hb' hb1 hm2 hm3) | (at_lookup; with_reducible refine wp_gmap_getok rfl rfl Try.underlying115 (zero_val _) rfl (HM2.out _ _) (k := (x.A, x.B)) (Eq.trans (b := slotV x.A x.B) rfl (slotKey_val x.A x.B)) HGD.out ?_; rw [HSL.out]) | (at_mapUpdate; (with_reducible refine wp_gmap_put rfl rfl Try.underlying115 rfl (HM3.out _ _ _) hk9 (k := (x.A, x.B)) (Eq.trans (b := slotV x.A x.B) rfl (slotKey_val x.A x.B)) rfl HGD.out fun w' hm' hg' => ?_); have HM' := Lib.hid hm'; have HG' := Lib.hid hg'; clear hm' hg'))
                  go_ret3
                  rw [HPW.out, HWW.out]
                  exact ⟨by simp, by repeat (first | exact HB1.out | refine below_new ?_ _ | refine below_set ?_ (by omega) _ | refine below_drew ?_)⟩
          · skip
            have d4 : (x.Kind == 4) = true := by simp [e4]
            have HT : Hid (told x = x.Old) := by show _ = _; unfold told; rw [if_pos e4]
            clear e4
            cases hkn : known l x.A x.B k with
            | none =>
              have HBF : Hid (bad l k = false) := by show _ = _; rw [HBA.out, hkn]; simp
              have HSL : Hid (slots l k (x.A, x.B) = none) := by show _ = _; unfold slots; rw [hkn]; rfl
              clear hkn
              go_wp2_with (first | (go_at_call 65; with_reducible refine (HOF.out _).mono ?_; rintro e w1 ⟨rfl, hb'⟩; obtain ⟨hb1, p0, p8, p9, p10, p11, l1, l2, l3, hm2, hm3⟩ := HAF.out _ hb'; have HB1 := Lib.hid hb1; have HM2 := Lib.hid hm2; have HM3 := Lib.hid hm3; have hs1 := hb1.size; clear hb' hb1 hm2 hm3) | (at_lookup; with_reducible refine wp_gmap_getok rfl rfl Try.underlying115 (zero_val _) rfl (HM2.out _ _) (k := (x.A, x.B)) (Eq.trans (b := slotV x.A x.B) rfl (slotKey_val x.A x.B)) HGD.out ?_; rw [HSL.out]) | (at_mapUpdate; (with_reducible refine wp_gmap_put rfl rfl Try.underlying115 rfl (HM3.out _ _ _) hk9 (k := (x.A, x.B)) (Eq.trans (b := slotV x.A x.B) rfl (slotKey_val x.A x.B)) rfl HGD.out fun w' hm' hg' => ?_); have HM' := Lib.hid hm'; have HG' := Lib.hid hg'; clear hm' hg'))
              go_roundw
              case rel => exact ⟨k + 1, by omega, by go_num, HNB.out.succ HBF.out, HM'.out.congr (fun z => slots_put HX.out HRW.out z), below_grown (by repeat (first | exact HB1.out | refine below_new ?_ _ | refine below_set ?_ (by omega) _ | refine below_drew ?_)) HG'.out (Nat.le_refl _)⟩
              case measure => simp [intOf]; omega
            | some v =>
              have HSL : Hid (slots l k (x.A, x.B) = some (valV v)) := by show _ = _; unfold slots; rw [hkn]; rfl
              by_cases hv1 : v = x.Old
              · have HBF : Hid (bad l k = false) := by show _ = _; rw [HBA.out, hkn, HT.out]; simp [hv1]
                subst hv1
                clear hkn
                go_wp2_with (first | (go_at_call 65; with_reducible refine (HOF.out _).mono ?_; rintro e w1 ⟨rfl, hb'⟩; obtain ⟨hb1, p0, p8, p9, p10, p11, l1, l2, l3, hm2, hm3⟩ := HAF.out _ hb'; have HB1 := Lib.hid hb1; have HM2 := Lib.hid hm2; have HM3 := Lib.hid hm3; have hs1 := hb1.size; clear hb' hb1 hm2 hm3) | (at_lookup; with_reducible refine wp_gmap_getok rfl rfl Try.underlying115 (zero_val _) rfl (HM2.out _ _) (k := (x.A, x.B)) (Eq.trans (b := slotV x.A x.B) rfl (slotKey_val x.A x.B)) HGD.out ?_; rw [HSL.out]) | (at_mapUpdate; (with_reducible refine wp_gmap_put rfl rfl Try.underlying115 rfl (HM3.out _ _ _) hk9 (k := (x.A, x.B)) (Eq.trans (b := slotV x.A x.B) rfl (slotKey_val x.A x.B)) rfl HGD.out fun w' hm' hg' => ?_); have HM' := Lib.hid hm'; have HG' := Lib.hid hg'; clear hm' hg'))
                go_roundw
                case rel => exact ⟨k + 1, by omega, by go_num, HNB.out.succ HBF.out, HM'.out.congr (fun z => slots_put HX.out HRW.out z), below_grown (by repeat (first | exact HB1.out | refine below_new ?_ _ | refine below_set ?_ (by omega) _ | refine below_drew ?_)) HG'.out (Nat.le_refl _)⟩
                case measure => simp [intOf]; omega
              · have HBF : Hid (bad l k = true) := by show _ = _; rw [HBA.out, hkn, HT.out, HRW.out]; simp [hv1]
                have HWW := Lib.hid (wholeOf_at (by rw [HN.out]; exact hlt) HNB.out HBF.out)
                clear hkn
                by_cases hk1 : v.Kind = x.Old.Kind
                · have hn1 : ¬ v.N = x.Old.N := fun e => hv1 (by cases v; cases h9 : x.Old; simp [h9] at hk1 e ⊢; exact ⟨hk1, e⟩)
                  clear hv1
                  go_wp2_with (first | (go_at_call 65; with_reducible refine (HOF.out _).mono ?_; rintro e w1 ⟨rfl, hb'⟩; obtain ⟨hb1, p0, p8, p9, p10, p11, l1, l2, l3, hm2, hm3⟩ := HAF.out _ hb'; have HB1 := Lib.hid hb1; have HM2 := Lib.hid hm2; have HM3 := Lib.hid hm3; have hs1 := hb1.size; clear hb' hb1 hm2 hm3) | (at_lookup; with_reducible refine wp_gmap_getok rfl rfl Try.underlying115 (zero_val _) rfl (HM2.out _ _) (k := (x.A, x.B)) (Eq.trans (b := slotV x.A x.B) rfl (slotKey_val x.A x.B)) HGD.out ?_; rw [HSL.out]) | (at_mapUpdate; (with_reducible refine wp_gmap_put rfl rfl Try.underlying115 rfl (HM3.out _ _ _) hk9 (k := (x.A, x.B)) (Eq.trans (b := slotV x.A x.B) rfl (slotKey_val x.A x.B)) rfl HGD.out fun w' hm' hg' => ?_); have HM' := Lib.hid hm'; have HG' := Lib.hid hg'; clear hm' hg'))
                  go_ret3
                  rw [HPW.out, HWW.out]
                  exact ⟨by simp, by repeat (first | exact HB1.out | refine below_new ?_ _ | refine below_set ?_ (by omega) _ | refine below_drew ?_)⟩
                · clear hv1
                  go_wp2_with (first | (go_at_call 65; with_reducible refine (HOF.out _).mono ?_; rintro e w1 ⟨rfl, hb'⟩; obtain ⟨hb1, p0, p8, p9, p10, p11, l1, l2, l3, hm2, hm3⟩ := HAF.out _ hb'; have HB1 := Lib.hid hb1; have HM2 := Lib.hid hm2; have HM3 := Lib.hid hm3; have hs1 := hb1.size; clear hb' hb1 hm2 hm3) | (at_lookup; with_reducible refine wp_gmap_getok rfl rfl Try.underlying115 (zero_val _) rfl (HM2.out _ _) (k := (x.A, x.B)) (Eq.trans (b := slotV x.A x.B) rfl (slotKey_val x.A x.B)) HGD.out ?_; rw [HSL.out]) | (at_mapUpdate; (with_reducible refine wp_gmap_put rfl rfl Try.underlying115 rfl (HM3.out _ _ _) hk9 (k := (x.A, x.B)) (Eq.trans (b := slotV x.A x.B) rfl (slotKey_val x.A x.B)) rfl HGD.out fun w' hm' hg' => ?_); have HM' := Lib.hid hm'; have HG' := Lib.hid hg'; clear hm' hg'))
                  go_ret3
                  rw [HPW.out, HWW.out]
                  exact ⟨by simp, by repeat (first | exact HB1.out | refine below_new ?_ _ | refine below_set ?_ (by omega) _ | refine below_drew ?_)⟩
        | false =>
          have HBF : Hid (bad l k = false) := by show _ = _; rw [HBA.out, hr]; rfl
          have HRW := Lib.hid hr
          rw [hr] at HOF
          clear hr
          go_wp2_with (go_at_call 65; with_reducible refine (HOF.out _).mono ?_; rintro e w1 ⟨rfl, hb'⟩; obtain ⟨hb1, p0, p8, p9, p10, p11, l1, l2, l3, hm2, hm3⟩ := HAF.out _ hb'; have HB1 := Lib.hid hb1; have HMM := Lib.hid ((HM.out.boxed _).below hb'); clear hb' hb1 hm2 hm3)
          go_roundw
          case rel => exact ⟨k + 1, by omega, by go_num, HNB.out.succ HBF.out, ((HMM.out.boxed _).mono (Nat.le_succ _)).congr (fun z => slots_skip HX.out HRW.out z), below_new HB1.out _⟩
          case measure => simp [intOf]; omega
      · obtain rfl : k = n := by omega
        have HWW := Lib.hid (wholeOf_none (l := l) (fun j hj => HNB.out j (by rw [← HN.out]; exact hj)))
        go_wp2
        go_ret3
        rw [HPW.out, HWW.out]
        exact ⟨rfl, HB.out⟩
end Go.Proofs.Ytfdpannanpipdaa.watch
