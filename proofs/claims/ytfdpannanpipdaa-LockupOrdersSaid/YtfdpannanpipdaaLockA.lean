/- LockupOrders: the program's Order, walked. -/
import Derived.Test.YtfdpannanpipdaaMapRows
import Derived.Test.YtfdpannanpipdaaDeleteI
import Derived.Test.YtfdpannanpipdaaCompactP
import Derived.Test.YtfdpannanpipdaaSteps
set_option linter.unusedVariables false
set_option linter.unusedSimpArgs false
namespace Go.Proofs.Ytfdpannanpipdaa.lock
open Go.Bk Go.RowKit Go.Maps

def intKey : KeyT Try.prog 3 Int where
  val k := .int .i64 k
  lit k := ik k
  good := I64
  keyed := int_keyed Try.underlying3
  reads k h := keyOf_int_mk Try.underlying3 h.wf
  inj k k' h := by injection h
theorem intKey_val (k : Int) : Value.int .i64 k = intKey.val k := rfl
theorem idxOf_eq {xs : List Int} {x : Int} {k : Nat} (h1 : xs[k]? = some x) (h2 : x ∉ xs.take k) : xs.idxOf x = k := by
  have hk : k < xs.length := (List.getElem?_eq_some_iff.1 h1).1
  have hxk : xs[k] = x := (List.getElem?_eq_some_iff.1 h1).2
  unfold List.idxOf
  rw [List.findIdx_eq hk]
  refine ⟨by simp [hxk], fun j hj => ?_⟩
  simp
  intro e
  exact h2 (List.mem_iff_getElem?.2 ⟨j, by rw [List.getElem?_take_of_lt hj, List.getElem?_eq_getElem (by omega), e]⟩)
theorem index_in {S : Nat → Prop} {w : World} {a : Option Addr} {c n : Nat} {xs : List Int} {x : Int} (hn : xs.length = n) (h : Arr S w a xs) (hx : x ∈ xs) :
    Calls Try.prog 104 #[.slice a n c, .int .i64 x] w fun e w' => e = .returned (.int .i64 (xs.idxOf x : Nat)) ∧ w = w' := by
  refine (index_at hn h).mono ?_
  rintro e w' ⟨⟨k, rfl, h1, h2⟩ | ⟨-, h1⟩, rfl⟩
  · exact ⟨by rw [idxOf_eq h1 h2], rfl⟩
  · exact absurd hx h1
theorem index_out {S : Nat → Prop} {w : World} {a : Option Addr} {c n : Nat} {xs : List Int} {x : Int} (hn : xs.length = n) (h : Arr S w a xs) (hx : x ∉ xs) :
    Calls Try.prog 104 #[.slice a n c, .int .i64 x] w fun e w' => e = .returned (.int .i64 (-1)) ∧ w = w' := by
  refine (index_at hn h).mono ?_
  rintro e w' ⟨⟨k, rfl, h1, h2⟩ | ⟨he, -⟩, rfl⟩
  · exact absurd (List.mem_of_getElem? h1) hx
  · exact ⟨he, rfl⟩
theorem held_succ {l : List Api.Event} {k : Nat} {x : Api.Event} (hx : l[k]? = some x) (t : Int) : held (l.take (k + 1)) t = if x.Thread = t then upd x (held (l.take k) t) else held (l.take k) t := by
  rw [List.take_add_one, hx, ← held_snoc]; rfl
theorem outTo_succ {l : List Api.Event} {k : Nat} {x : Api.Event} (hx : l[k]? = some x) : outTo l (k + 1) = outTo l k ++ pairStep (l.take k) x := by rw [outTo, hx]
theorem pairsOf_succ {own : List Int} {j : Nat} {y : Int} (hy : own[j]? = some y) (a : Int) : pairsOf (own.take (j + 1)) a = pairsOf (own.take j) a ++ if y = a then [] else [⟨y, a⟩] := by
  unfold pairsOf
  rw [List.take_add_one, hy]
  by_cases h : y = a <;> simp [h]
abbrev evC (x : Api.Event) : List Value := [.int .i64 x.Kind, .int .i64 x.Step, .int .i64 x.Thread, .int .i64 x.Fn, .int .i64 x.At, .int .i64 x.Line, .int .i64 x.A, .int .i64 x.B, .int .i64 x.Val.Kind, .int .i64 x.Val.N, .int .i64 x.Old.Kind, .int .i64 x.Old.N]
theorem grown_of_drew {w w' : World} {r : Option Nat} (h : w.drew.grownBy w' r) : w.grownBy w' r := ⟨h.os, h.tape, h.output, h.size, h.block⟩
theorem stay_of_drew {w : World} {v v' : Value} (h : Stay w.drew v v') : Stay w v v' := h
abbrev St (w w' : World) (k : Nat) (f : Int → Option Value) (L : Int → List Int) (v : Value) (ps : List Api.DPair) : Prop := RowsAnd intKey w w' w.heap.size k 3 105 f L v ps
def ordLRel (w : World) (l : List Api.Event) (n : Nat) (v5 v18 : Value) (w' : World) : Prop := ∃ (k : Nat) (f : Int → Option Value), k ≤ n ∧ v18 = .int .i64 k ∧ St w w' k f (held (l.take k)) v5 (outTo l k)
def inLRel (w : World) (gb : Nat) (x : Api.Event) (k : Nat) (f : Int → Option Value) (L : Int → List Int) (ps : List Api.DPair) (m : Nat) (v5 v36 : Value) (w' : World) : Prop :=
  ∃ j : Nat, j ≤ m ∧ v36 = .int .i64 j ∧ St w w' k f L v5 (ps ++ pairsOf ((L x.Thread).take j) x.A) ∧ v5.ownBlock ≠ some gb ∧ gb < w'.heap.size ∧ Blk w' gb 41 (evC x)
theorem zero_list (w : World) : (zeroValue 30).run Try.prog w = .ok (.slice none 0 0) w := by kernel_rfl
def orderRes (l : List Api.Event) : List Api.DPair × Int := if 200 < l.length then ([], 2) else (orderOf l, 0)
theorem pair_cells {x y : Int} (h1 : I64 x) (h2 : I64 y) (S : Nat → Prop) (w : World) : Rep.cells (α := Api.DPair) S w [.int .i64 x, .int .i64 y] ⟨x, y⟩ := ⟨[_], [_], ⟨rfl, h1⟩, ⟨rfl, h2⟩, rfl⟩
set_option maxRecDepth 100000 in
set_option maxHeartbeats 4000000 in
theorem order_any {S : Nat → Prop} {w : World} {a : Option Addr} {c n : Nat} {l : List Api.Event} (hn : l.length = n) (h : Arr S w a l) (hS : ∀ b, S b → b < w.heap.size) :
    Calls Try.prog 61 #[.slice a n c] w (RetLE w (orderRes l)) := by
  have hsm := h.small
  rw [hn] at hsm
  unfold maxLen at hsm
  have HN := Lib.hid hn
  have HA : Hid (∀ w', Below w.heap.size w w' → Arr S w' a l) := fun w' hb => h.keep (fun b hb' => hb.block b (hS b hb'))
  clear hn h hS
  by_cases hl : 200 < n
  · have HE : Hid (orderRes l = ([], 2)) := by show _ = _; unfold orderRes; rw [if_pos (by rw [HN.out]; exact hl)]
    go_enter Try.func61, Try.ntmps61
    go_wp2
    go_ret2
    exact .err HE.out (Below.refl _ _)
  · have HE : Hid (orderRes l = (orderOf l, 0)) := by show _ = _; unfold orderRes; rw [if_neg (by rw [HN.out]; exact hl)]
    have hmm := @run_makeMap Try.prog
    have hgs : w.heap.size ≤ w.heap.size := Nat.le_refl _
    have HST : Hid (St w (w.alloc (.map #[] 0)) 0 (fun _ => none) (held (l.take 0)) (.slice none 0 0) (outTo l 0)) :=
      ⟨MapRows.start (GMap.made intKey w) _ _, Own.nil _ _ _ _, (fun _ => Apart.nil_left _ _ _), (fun h => by cases h), (Below.refl _ _).alloc (Nat.le_refl _) _⟩
    go_enter Try.func61, Try.ntmps61
    go_wp2_with fail
    clear hmm
    go_loopw [5, 18] (ordLRel w l n) (fun _ i _ => n - (intOf i).toNat)
    case atStart => exact ⟨0, _, Nat.zero_le _, rfl, HST.out⟩
    case round =>
      clear HST
      obtain ⟨k, f, hk, rfl, hst⟩ := hrel
      have HST := Lib.hid hst
      have hbs := hst.below.size
      have hol : (outTo l k).length ≤ 40000 := by
        have h1 := outTo_len l k
        rw [HN.out] at h1
        have h2 : k * n ≤ 200 * 200 := Nat.mul_le_mul (by omega) (by omega)
        omega
      clear hst
      by_cases hlt : k < n
      · obtain ⟨x, hx⟩ : ∃ x, l[k]? = some x := ⟨_, List.getElem?_eq_getElem (by have := HN.out; omega)⟩
        have HX := Lib.hid hx
        obtain ⟨b1, o1, rfl, -, q0, q1, q2, q3, q4, q5, q6, q7, q8, q9, q10, q11, i0, i1, i2, i3, i4, i5, i6, -⟩ := api_Event_elem (HA.out _ HST.out.below) hx
        clear hx
        have HST1 : Hid (St w (wr.alloc (.cells (evC x).toArray 41)) k f (held (l.take k)) u5 (outTo l k)) := HST.out.later ((Below.refl _ _).alloc (Nat.le_refl _) _)
        have HBX : Hid (Blk (wr.alloc (.cells (evC x).toArray 41)) wr.heap.size 41 (evC x)) := blk_new wr (evC x) _
        have HOFF : Hid (u5.ownBlock ≠ some wr.heap.size) := fun e => by have := (HST.out.out.lt _ e).2; omega
        have HOFR : Hid (((f x.Thread).getD nilV).ownBlock ≠ some wr.heap.size) := fun e => by have := ((HST.out.rows.row x.Thread).lt _ e).2; omega
        have HI2 : Hid (intKey.good x.Thread) := i2
        have HI6 := Lib.hid i6
        obtain ⟨a8, c8, hv8, hc8, hn8, harr8⟩ := (HST.out.rows.row x.Thread).arr
        have hll : (held (l.take k) x.Thread).length ≤ k := by
          have h1 := held_len (l.take k) x.Thread
          rw [List.length_take] at h1
          omega
        obtain ⟨m, hm⟩ : ∃ m, (held (l.take k) x.Thread).length = m := ⟨_, rfl⟩
        rw [hm] at hv8 hll
        have HV8 : Hid ((f x.Thread).getD (.slice none 0 0) = .slice a8 m c8) := hv8
        have HM := Lib.hid hm
        have HAR : Hid (∀ w' v ps, St w w' k f (held (l.take k)) v ps → Arr (fun b => False ∨ (w.heap.size ≤ b ∧ b < w'.heap.size)) w' a8 (held (l.take k) x.Thread)) := fun w' v ps hs => by
          obtain ⟨a9, c9, hv9, -, -, h9⟩ := (hs.rows.row x.Thread).arr
          rw [show (f x.Thread).getD nilV = _ from hv8] at hv9
          injection hv9 with e9
          rw [e9]
          exact h9
        have HHS := Lib.hid (held_succ HX.out)
        have HOS := Lib.hid (outTo_succ HX.out)
        have HWF : Hid (wr.heap.size < (wr.alloc (.cells (evC x).toArray 41)).heap.size) := by show _ < _; simp
        clear hv8 hm harr8
        have HC : Hid (∃ r : Int, (x.A ∈ held (l.take k) x.Thread → r = ((held (l.take k) x.Thread).idxOf x.A : Nat)) ∧ (x.A ∉ held (l.take k) x.Thread → r = -1) ∧ Hid (∀ w', St w w' k f (held (l.take k)) u5 (outTo l k) → Calls Try.prog 104 #[.slice a8 m c8, .int .i64 x.A] w' fun e w'' => e = .returned (.int .i64 r) ∧ w' = w'')) := by
          by_cases hin : x.A ∈ (held (l.take k) x.Thread)
          · exact ⟨_, (fun _ => rfl), (fun h => absurd hin h), fun w' hs => index_in HM.out (HAR.out _ _ _ hs) hin⟩
          · exact ⟨_, (fun h => absurd h hin), (fun _ => rfl), fun w' hs => index_out HM.out (HAR.out _ _ _ hs) hin⟩
        obtain ⟨r, hr1, hr2, HC⟩ := HC.out
        have HR1 := Lib.hid hr1; have HR2 := Lib.hid hr2
        clear hr1 hr2
        by_cases h13 : x.Kind = 13
        · have d13 : (x.Kind == 13) = true := by simpa using h13
          have H13 := Lib.hid h13
          clear h13
          go_wp2_with (first
            | (at_lookup; refine cut_list (fun wz => St w wz k f (held (l.take k)) u5 (outTo l k) ∧ Blk wz wr.heap.size 41 (evC x) ∧ wr.heap.size < wz.heap.size) ⟨HST1.out, HBX.out, HWF.out⟩ ?_; rintro wz ⟨hst, hbx, hwf⟩; have c0 := hbx.cell (j := 0) rfl; have c2 := hbx.cell (j := 2) rfl; have c6 := hbx.cell (j := 6) rfl; have HST2 := Lib.hid hst; have HBX2 := Lib.hid hbx; clear hst hbx; (with_reducible refine wp_gmap_get rfl rfl Try.underlying151 (zero_list _) rfl HST2.out.rows.map (k := x.Thread) (Eq.trans (b := .int .i64 x.Thread) rfl (intKey_val _)) HI2.out ?_); rw [HV8.out])
            | (go_at_call 104; (with_reducible refine (HC.out _ HST2.out).mono ?_); rintro e w' ⟨rfl, rfl⟩))
          clear HC HST HST1 HBX HWF q0 q1 q2 q3 q4 q5 q6 q7 q8 q9 q10 q11 i0 i1 i3 i4 i5
          obtain ⟨gb, hgb⟩ : ∃ g, g = wr.heap.size := ⟨_, rfl⟩
          rw [← hgb] at HOFF HOFR hwf HBX2 c0 c2 c6 ⊢
          clear hgb
          go_loopw [5, 36] (inLRel w gb x k f (held (l.take k)) (outTo l k) m) (fun _ i _ => m - (intOf i).toNat)
          case atStart => exact ⟨0, Nat.zero_le _, rfl, by rw [List.take_zero]; simpa [pairsOf] using HST2.out, HOFF.out, hwf, HBX2.out⟩
          case round =>
            clear HST2 HBX2 HOFF hwf c0 c2 c6
            obtain ⟨j, hj, rfl, hst, hoff, hwf, hbx⟩ := hrel
            have HST2 := Lib.hid hst; have HOFF := Lib.hid hoff; have HBX2 := Lib.hid hbx
            have c0 := hbx.cell (j := 0) rfl; have c2 := hbx.cell (j := 2) rfl; have c6 := hbx.cell (j := 6) rfl
            have hbs2 := hst.below.size
            clear hst hoff hbx
            have hpl : (outTo l k ++ pairsOf ((held (l.take k) x.Thread).take j) x.A).length ≤ 41000 := by
              have h1 := pairsOf_len ((held (l.take k) x.Thread).take j) x.A
              rw [List.length_take] at h1
              rw [List.length_append]
              omega
            by_cases hjm : j < m
            · obtain ⟨y, hy⟩ : ∃ y, (held (l.take k) x.Thread)[j]? = some y := ⟨_, List.getElem?_eq_getElem (by have := HM.out; omega)⟩
              obtain ⟨b8, o8, rfl, -, r1, iy⟩ := arr_int (HAR.out _ _ _ HST2.out) hy
              have HPS := Lib.hid (pairsOf_succ hy x.A)
              have HIY := Lib.hid iy
              clear hy iy
              by_cases hya : y = x.A
              · have dy : (y != x.A) = false := by simpa using hya
                rw [if_pos hya, List.append_nil] at HPS
                clear hya
                go_wp2_with fail
                go_roundw
                case rel => exact ⟨j + 1, by omega, by go_num, by rw [HPS.out]; exact HST2.out, HOFF.out, hwf, HBX2.out⟩
                case measure => simp [intOf]; omega
              · have dy : (y != x.A) = true := by simpa using hya
                rw [if_neg hya] at HPS
                clear hya
                go_wp2_with (at_builtin; go_loud ((at_builtin; with_reducible refine Try.wp_appd101 rfl rfl rfl rfl rfl (by first | rfl | simp) (HST2.out.out) (pair_cells HIY.out HI6.out _ _) (fun _ h => h.elim) (by omega) (by first | omega | (simp; omega)) fun v' w' hown' hg' hst' => ?_); have HST3 := Lib.hid (HST2.out.turn hown' hg' hst'); have HOFF3 : Hid (v'.ownBlock ≠ some gb) := (fun e => (hst' gb e).elim HOFF.out (fun h => by omega)); have HBX3 := Lib.hid (HBX2.out.keep (hg'.block gb hwf (Ne.symm HOFF.out))); have hwf3 := Nat.lt_of_lt_of_le hwf hg'.size; clear hown' hg' hst'))
                go_roundw
                case rel => exact ⟨j + 1, by omega, by go_num, by rw [HPS.out, ← List.append_assoc]; exact HST3.out, HOFF3.out, hwf3, HBX3.out⟩
                case measure => simp [intOf]; omega
            · obtain rfl : j = m := by omega
              have HPE : Hid (outTo l (k + 1) = outTo l k ++ pairsOf ((held (l.take k) x.Thread).take j) x.A) := by
                show _ = _
                rw [HOS.out]
                unfold pairStep
                rw [if_pos H13.out, List.take_of_length_le (l := held (l.take k) x.Thread) (by rw [HM.out]; exact Nat.le_refl _)]
              by_cases hin : x.A ∈ held (l.take k) x.Thread
              · have hr := HR1.out hin
                have dr : ¬ r < 0 := by omega
                have HHN : Hid (∀ t, held (l.take k) t = held (l.take (k + 1)) t) := fun t => by
                  rw [HHS.out]
                  split
                  · rename_i e
                    subst e
                    unfold upd
                    rw [if_pos H13.out, if_pos hin]
                  · rfl
                clear hin hr
                go_wp2_with fail
                go_roundw
                case rel => exact ⟨k + 1, f, by omega, by go_num, by rw [HPE.out]; exact (HST2.out.mono (Nat.le_succ _)).congr HHN.out⟩
                case measure => simp [intOf]; omega
              · have dr : r = -1 := HR2.out hin
                subst dr
                have HHN : Hid (∀ t, (if t = x.Thread then held (l.take k) x.Thread ++ [x.A] else held (l.take k) t) = held (l.take (k + 1)) t) := fun t => by
                  rw [HHS.out]
                  by_cases e : t = x.Thread
                  · subst e
                    rw [if_pos rfl, if_pos rfl]
                    unfold upd
                    rw [if_pos H13.out, if_neg hin]
                  · rw [if_neg e, if_neg (fun h => e h.symm)]
                clear hin
                go_wp2_with fail
                have HOWN : Hid (Own (fun _ => False) wr.drew w.heap.size 3 (.slice a8 j c8) (held (l.take k) x.Thread)) := by
                  have h1 := HST2.out.rows.row x.Thread
                  rw [show (f x.Thread).getD nilV = _ from HV8.out] at h1
                  exact h1
                have HOFR2 : Hid ((Value.slice a8 j c8).ownBlock ≠ some gb) := by rw [← HV8.out]; exact HOFR.out
                have HOFG : Hid ((Value.slice a8 j c8).ownBlock ≠ some w.heap.size) := by rw [← HV8.out]; exact HST2.out.rows.off x.Thread
                have HCI : Hid (Rep.cells (α := Int) (fun _ => False) wr.drew [.int .i64 x.A] x.A) := ⟨rfl, HI6.out⟩
                go_region_law? (go_loud (refine step_append1s (α := Int) (S := fun _ => False) (B := w.heap.size) (e := 3) (xs := held (l.take k) x.Thread) (y := x.A) (cs := [.int .i64 x.A]) (w0 := wr.drew) (e' := 3) rfl rfl Try.underlying30 Try.infoRep30 (by decide) (by decide) (by simp [Act.eval, Act.put]) (g := wr.heap.size) (by simp [Act.eval, Act.put]) rfl rfl HOWN.out HCI.out (fun _ h => h.elim) (by rw [HM.out]; unfold maxLen; omega) (by rw [HM.out]; omega) hbs2 ?_; intro v' w' hown' hg' hst'; replace hg' := grown_of_drew hg'; replace hst' := stay_of_drew hst'; have c2' := (Go.Bk.cell_grown (o := 2) hg' hwf HOFR2.out).trans c2; obtain ⟨w3, hrun, hm3, hg3⟩ := (HST2.out.rows.map.kept (w' := w') hg' (Ne.symm HOFG.out)).put_run Try.underlying151 (by omega) HI2.out v'; have hrun2 : (Instr.mapUpdate 151 (.map (some w.heap.size)) (.int .i64 x.Thread) v').run Try.prog w' = .ok () w3 := hrun; have HST3 : Hid (St w w3 (k + 1) _ _ u5 _) := HST2.out.put (Nat.le_refl _) (t := x.Thread) hown' (by rw [show (f x.Thread).getD nilV = _ from HV8.out]; exact hg') (by rw [show (f x.Thread).getD nilV = _ from HV8.out]; exact hst') hm3 hg3; clear hown' hg' hst' hm3 hg3 hrun))
                all_goals go_wp2_with fail
                all_goals go_roundw
                all_goals first
                  | (case' rel => exact ⟨k + 1, _, by omega, by go_num, by rw [HPE.out]; exact HST3.out.congr HHN.out⟩)
                  | (case' measure => simp [intOf]; omega)
                  | skip
        · have d13 : (x.Kind == 13) = false := by simpa using h13
          have HPE : Hid (outTo l (k + 1) = outTo l k) := by
            show _ = _
            rw [HOS.out]
            unfold pairStep
            rw [if_neg h13, List.append_nil]
          have H13 := Lib.hid h13
          clear h13
          by_cases h14 : x.Kind = 14 ∧ x.A ∈ held (l.take k) x.Thread
          · obtain ⟨h14, hin⟩ := h14
            have d14 : (x.Kind == 14) = true := by simpa using h14
            obtain ⟨ix, hix⟩ : ∃ i, i = (held (l.take k) x.Thread).idxOf x.A := ⟨_, rfl⟩
            have hixl : ix < m := by rw [hix, ← HM.out]; exact List.idxOf_lt_length_of_mem hin
            have hr := HR1.out hin
            rw [← hix] at hr
            have HHN : Hid (∀ t, (if t = x.Thread then (held (l.take k) x.Thread).eraseIdx ix else held (l.take k) t) = held (l.take (k + 1)) t) := fun t => by
              rw [HHS.out]
              by_cases e : t = x.Thread
              · subst e
                rw [if_pos rfl, if_pos rfl]
                unfold upd
                rw [if_neg H13.out, if_pos h14, List.erase_eq_eraseIdx_of_idxOf hix.symm]
              · rw [if_neg e, if_neg (fun h => e h.symm)]
            subst hr
            clear h14 hin hix
            go_wp2_with (first
              | (at_lookup; refine cut_list (fun wz => St w wz k f (held (l.take k)) u5 (outTo l k) ∧ Blk wz wr.heap.size 41 (evC x) ∧ wr.heap.size < wz.heap.size) ⟨HST1.out, HBX.out, HWF.out⟩ ?_; rintro wz ⟨hst, hbx, hwf⟩; have c0 := hbx.cell (j := 0) rfl; have c2 := hbx.cell (j := 2) rfl; have c6 := hbx.cell (j := 6) rfl; have HST2 := Lib.hid hst; have HBX2 := Lib.hid hbx; clear hst hbx; (with_reducible refine wp_gmap_get rfl rfl Try.underlying151 (zero_list _) rfl HST2.out.rows.map (k := x.Thread) (Eq.trans (b := .int .i64 x.Thread) rfl (intKey_val _)) HI2.out ?_); rw [HV8.out])
              | (go_at_call 104; (with_reducible refine (HC.out _ HST2.out).mono ?_); rintro e w' ⟨rfl, rfl⟩))
            clear HC HST HST1 HBX HWF q0 q1 q2 q3 q4 q5 q6 q7 q8 q9 q10 q11 i0 i1 i3 i4 i5
            obtain ⟨gb, hgb⟩ : ∃ g, g = wr.heap.size := ⟨_, rfl⟩
            rw [← hgb] at HOFF HOFR hwf HBX2 c0 c2 c6 ⊢
            clear hgb
            have hwrap : IntKind.i64.wrap ((ix : Int) + 1) = ((ix + 1 : Nat) : Int) := by rw [IntKind.wrap_i64]; omega
            have HDEL : Hid (Calls Try.prog 105 #[.slice a8 m c8, .int .i64 (ix : Nat), .int .i64 ((ix + 1 : Nat) : Int)] wz.drew (DelPost wz.drew w.heap.size (.slice a8 m c8) ((held (l.take k) x.Thread).eraseIdx ix))) := by
              have h1 : Own (fun _ => False) wz.drew w.heap.size 3 (.slice a8 m c8) (held (l.take k) x.Thread) := by
                have h1 := HST2.out.rows.row x.Thread
                rw [show (f x.Thread).getD nilV = _ from HV8.out] at h1
                exact h1
              exact delete_any h1 HM.out hixl
            have HED := Lib.hid (enters_of Try.func105 (by kernel_rfl) rfl)
            have HOFR2 : Hid ((Value.slice a8 m c8).ownBlock ≠ some gb) := by rw [← HV8.out]; exact HOFR.out
            have HOFG : Hid ((Value.slice a8 m c8).ownBlock ≠ some w.heap.size) := by rw [← HV8.out]; exact HST2.out.rows.off x.Thread
            go_region_law? (go_loud (refine step_call (f := 105) (vs := #[.slice a8 m c8, .int .i64 (ix : Nat), .int .i64 ((ix + 1 : Nat) : Int)]) rfl rfl (by simp [Act.eval, Act.put]) HED.out HDEL.out fun e w' hp => ?_; obtain ⟨v', rfl, hown', hg', hst'⟩ := hp; refine ⟨_, rfl, ?_⟩; replace hg' := grown_of_drew hg'; replace hst' := stay_of_drew hst'; have c2' := (Go.Bk.cell_grown (o := 2) hg' hwf HOFR2.out).trans c2; obtain ⟨w3, hrun, hm3, hg3⟩ := (HST2.out.rows.map.kept (w' := w') hg' (Ne.symm HOFG.out)).put_run Try.underlying151 (by omega) HI2.out v'; have hrun2 : (Instr.mapUpdate 151 (.map (some w.heap.size)) (.int .i64 x.Thread) v').run Try.prog w' = .ok () w3 := hrun; have HST3 : Hid (St w w3 (k + 1) _ _ u5 _) := HST2.out.put (Nat.le_refl _) (t := x.Thread) hown' (by rw [show (f x.Thread).getD nilV = _ from HV8.out]; exact hg') (by rw [show (f x.Thread).getD nilV = _ from HV8.out]; exact hst') hm3 hg3; clear hown' hg' hst' hm3 hg3 hrun))
            all_goals go_wp2_with fail
            all_goals go_roundw
            all_goals first
              | (case' rel => exact ⟨k + 1, _, by omega, by go_num, by rw [HPE.out]; exact HST3.out.congr HHN.out⟩)
              | (case' measure => simp [intOf]; omega)
              | skip
          · have HHN : Hid (∀ t, held (l.take k) t = held (l.take (k + 1)) t) := fun t => by
              rw [HHS.out]
              split
              · rename_i e
                subst e
                unfold upd
                rw [if_neg H13.out]
                split
                · rename_i h
                  rw [List.erase_of_not_mem (fun hm => h14 ⟨h, hm⟩)]
                · rfl
              · rfl
            have hcase : (x.Kind == 14) = false ∨ (x.Kind == 14) = true ∧ r = -1 := by
              by_cases e : x.Kind = 14
              · exact .inr ⟨by simpa using e, HR2.out (fun hm => h14 ⟨e, hm⟩)⟩
              · exact .inl (by simpa using e)
            clear h14
            rcases hcase with d14 | ⟨d14, rfl⟩
            all_goals
              go_wp2_with (first
                | (at_lookup; refine cut_list (fun wz => St w wz k f (held (l.take k)) u5 (outTo l k) ∧ Blk wz wr.heap.size 41 (evC x) ∧ wr.heap.size < wz.heap.size) ⟨HST1.out, HBX.out, HWF.out⟩ ?_; rintro wz ⟨hst, hbx, hwf⟩; have c0 := hbx.cell (j := 0) rfl; have c2 := hbx.cell (j := 2) rfl; have c6 := hbx.cell (j := 6) rfl; have HST2 := Lib.hid hst; have HBX2 := Lib.hid hbx; clear hst hbx; (with_reducible refine wp_gmap_get rfl rfl Try.underlying151 (zero_list _) rfl HST2.out.rows.map (k := x.Thread) (Eq.trans (b := .int .i64 x.Thread) rfl (intKey_val _)) HI2.out ?_); rw [HV8.out])
                | (go_at_call 104; (with_reducible refine (HC.out _ HST2.out).mono ?_); rintro e w' ⟨rfl, rfl⟩))
              go_roundw
              case rel => exact ⟨k + 1, f, by omega, by go_num, by rw [HPE.out]; exact (HST2.out.mono (Nat.le_succ _)).congr HHN.out⟩
              case measure => simp [intOf]; omega
      · obtain rfl : k = n := by omega
        have HLE : Hid (orderOf l = compactTo (sortPairs (outTo l k)) (sortPairs (outTo l k)).length) := by show _ = _; unfold orderOf; rw [HN.out]
        have HSO := Lib.hid (sortFunc_any HST.out.out (by omega))
        clear HA
        go_wp2_with fail
        refine HSO.out.mono ?_
        rintro e w1 ⟨rfl, ho1, hg1⟩
        have HB1 := Lib.hid (HST.out.below.grown hg1 hbs (fun r hr => (HST.out.out.lt r hr).1))
        have HCO := Lib.hid (compact_any ho1 (by rw [sortPairs_len]; omega))
        have HO1 := Lib.hid ho1
        rw [← HLE.out] at HCO
        clear ho1 hg1 HSO HST
        go_wp2_with fail
        refine HCO.out.mono ?_
        rintro e w2 ⟨v2, rfl, ho2, hg2⟩
        have HB2 := Lib.hid (HB1.out.grown hg2 HB1.out.size (fun r hr => (HO1.out.lt r hr).1))
        obtain ⟨a2, c2, rfl, h1, h2, h3⟩ := own_fresh (w := w) ho2
        have H1 := Lib.hid h1; have H2 := Lib.hid h2; have H3 := Lib.hid h3
        clear ho2 hg2 h1 h2 h3
        go_wp2_with fail
        go_ret2
        exact .ok HE.out HB2.out H3.out H1.out H2.out
end Go.Proofs.Ytfdpannanpipdaa.lock
