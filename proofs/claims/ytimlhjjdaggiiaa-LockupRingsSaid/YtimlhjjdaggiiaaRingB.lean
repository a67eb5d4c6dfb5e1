/- A ring of waiting threads, walked. -/
import Derived.Test.YtimlhjjdaggiiaaRingA
import Derived.Test.YtimlhjjdaggiiaaMap
import Derived.Test.YtimlhjjdaggiiaaApp
set_option linter.unusedVariables false
set_option linter.unusedSimpArgs false
namespace Go.Proofs.Ytimlhjjdaggiiaa.ring
open Go.Bk Go.RowKit

theorem zero_int (w : World) : (zeroValue 3).run Try.prog w = .ok (.int .i64 0) w := by kernel_rfl
theorem under_int : Try.prog.underlying 3 = some (.int .i64) := by kernel_rfl
theorem under_map : Try.prog.underlying 164 = some (.map 3 3) := by kernel_rfl
abbrev Vars (w : World) (g n : Nat) (f : Int → Option Int) : Prop := IMap Try.prog 3 3 w g n f
theorem Vars.boxed {w : World} {g n : Nat} {f : Int → Option Int} (h : Vars w g n f) (b : Obj) : Vars (w.alloc b) g n f := IMap.below h ((Below.refl _ _).alloc (Nat.le_refl _) _)
theorem grown_box {w w' : World} {b : Obj} {r : Option Nat} (h : (w.alloc b).grownBy w' r) : w.grownBy w' r := by
  refine ⟨h.os, h.tape, h.output, Nat.le_trans (by simp) h.size, fun k hk hne => ?_⟩
  rw [h.block k (by simp; omega) hne]
  exact Below.heap_alloc _ _ _ hk
theorem below_map {w0 w w' : World} {g : Nat} (h : Below w0.heap.size w0 w) (hg : w.grownBy w' (some g)) (hgs : w0.heap.size ≤ g) : Below w0.heap.size w0 w' :=
  ⟨hg.os.trans h.os, hg.tape.trans h.tape, hg.output.trans h.output, Nat.le_trans h.size hg.size, fun j hj => (hg.block j (Nat.lt_of_lt_of_le hj h.size) (by intro e; injection e with e; omega)).trans (h.block j hj)⟩
theorem own_one {w : World} {n : Int} (hi : I64 n) : Own (fun _ => False) (w.alloc (.cells #[.int .i64 n] 3)) w.heap.size 3 (.slice (some ⟨w.heap.size, 0, none⟩) 1 1) [n] :=
  ⟨[[.int .i64 n]], rfl, fun k x cs hk hc => by
    cases k with
    | zero => simp at hk hc; subst hk; subst hc; exact ⟨rfl, hi⟩
    | succ k => simp at hk, by simp [show Rep.sz Int = 1 from rfl], .inr ⟨w.heap.size, 1, #[.int .i64 n], rfl, Nat.le_refl _, heap_alloc_new _ _, Nat.le_refl _, by unfold maxLen; omega, rfl, rfl⟩⟩
theorem own_base {α : Type} [Rep α] {S : Nat → Prop} {w : World} {B B' : Nat} {e : TypeId} {v : Value} {xs : List α} (h : Own S w B e v xs) (hB : B' ≤ B) : Own S w B' e v xs := by
  obtain ⟨css, h1, h2, h3, h4⟩ := h
  refine ⟨css, h1, h2, h3, ?_⟩
  rcases h4 with h4 | ⟨g, cap, cur, h4, h5, h6⟩
  · exact .inl h4
  · exact .inr ⟨g, cap, cur, h4, Nat.le_trans hB h5, h6⟩
def lenV : Value → Nat
  | .slice _ n _ => n
  | _ => 0

def RingPost (w : World) (R : List Int) (E : Int) (e : Ending) (w' : World) : Prop :=
  ∃ a' c', e = .returned (.tuple #[.slice a' R.length c', .bool (decide (0 < R.length)), .int .i64 E]) ∧ Arr (fun b => w.heap.size ≤ b ∧ b < w'.heap.size) w' a' R ∧ Below w.heap.size w w'
def onRel (w : World) (l : List Api.DWait) (g : Nat) (t : Int) (v n is : Value) (w' : World) : Prop :=
  ∃ j, Along l t j ∧ Own (fun _ => False) w' (w.heap.size + 1) 3 v (way l t (j + 1)) ∧ n = .int .i64 ((path l t (j + 1)).getD 0) ∧ is = .bool (path l t (j + 1)).isSome ∧ Below w.heap.size w w' ∧ Vars w' g 8 (nextOf l) ∧ g < w'.heap.size

set_option maxRecDepth 100000 in
set_option maxHeartbeats 2000000 in
theorem ring_any {S : Nat → Prop} {w : World} {a : Option Addr} {c n : Nat} {l : List Api.DWait} (hn : l.length = n) (h : Arr S w a l) (hS : ∀ b, S b → b < w.heap.size) :
    Calls Try.prog 38 #[.slice a n c] w (RingPost w (ringRes l) (errOf l)) := by
  have hm := h.small
  rw [hn] at hm
  unfold maxLen at hm
  have HN := Lib.hid hn
  clear hn
  by_cases hl : 8 < n
  · have hd : decide (8 < (n : Int)) = true := decide_eq_true (by omega)
    have HE : Hid (errOf l = 2) := by show _ = _; unfold errOf; rw [if_pos (by rw [HN.out]; exact hl)]
    have HR : Hid (ringRes l = []) := by show _ = _; unfold ringRes; rw [if_neg (by rw [HE.out]; decide)]
    go_enter Try.func38, Try.ntmps38
    go_wp2
    go_ret3
    rw [HE.out, HR.out]
    exact ⟨none, 0, rfl, Arr.nil _ _ _, Below.refl _ _⟩
  have hd : decide (8 < (n : Int)) = false := decide_eq_false (by omega)
  go_enter Try.func38, Try.ntmps38
  have hmm := @run_makeMap Try.prog
  go_wp2_with fail
  clear hmm
  have HM0 : Hid (Vars (w.alloc (.map #[] 0)) w.heap.size 0 (nextOf (l.take 0))) := IMap.made _ _ _ _
  go_loopw [20] (fun i w' => ∃ k : Nat, k ≤ n ∧ i = .int .i64 k ∧ errTo l k = 0 ∧ Vars w' w.heap.size k (nextOf (l.take k)) ∧ Below w.heap.size w w') (fun i _ => n - (intOf i).toNat)
  case atStart => exact ⟨0, Nat.zero_le _, rfl, rfl, HM0.out, (Below.refl _ _).alloc (Nat.le_refl _) _⟩
  case round =>
    obtain ⟨k, hk, rfl, he0, hv, hb⟩ := hrel
    have HE0 := Lib.hid he0; have HV := Lib.hid hv; have HB := Lib.hid hb
    have h' := h.keep (w' := wr) (fun b hb' => hb.block b (hS b hb'))
    clear he0 hv hb HM0
    by_cases hlt : k < n
    · obtain ⟨x, hx⟩ : ∃ x, l[k]? = some x := ⟨_, List.getElem?_eq_getElem (by have := HN.out; omega)⟩
      obtain ⟨b1, o1, rfl, -, q1, q2, q3, i1, i2, -⟩ := api_DWait_elem h' hx
      have HX := Lib.hid hx
      have HBAD : Hid (∀ e, errW (l.take k) x = e → e ≠ 0 → errOf l = e ∧ ringRes l = []) := fun e h1 h2 => by
        have := errOf_bad (by rw [HN.out]; omega) HE0.out HX.out (by rw [h1]; exact h2)
        rw [h1] at this
        exact ⟨this, by unfold ringRes; rw [if_neg (by rw [this]; exact h2)]⟩
      have HBB : Hid (Below w.heap.size w (wr.alloc (.cells #[.int .i64 x.Thread, .int .i64 x.For, .int .i64 x.Lock] 166))) := HB.out.alloc HB.out.size _
      have HVB : Hid (Vars (wr.alloc (.cells #[.int .i64 x.Thread, .int .i64 x.For, .int .i64 x.Lock] 166)) w.heap.size k (nextOf (l.take k))) := HV.out.boxed _
      clear hx h h'
      by_cases h1 : okT x.Thread
      case neg =>
        have hd1 : decide (okT x.Thread) = false := decide_eq_false h1
        have HF := Lib.hid (HBAD.out 1 (by unfold errW; rw [if_pos (by simp [h1])]) (by decide))
        clear h1 HBAD
        go_wp2_with (with_reducible refine (thread_any _ _).mono ?_; rintro e w' ⟨rfl, rfl⟩)
        go_ret3
        rw [HF.out.1, HF.out.2]
        exact ⟨none, 0, rfl, Arr.nil _ _ _, HBB.out⟩
      by_cases h2 : okT x.For
      case neg =>
        have hd1 : decide (okT x.Thread) = true := decide_eq_true h1
        have hd2 : decide (okT x.For) = false := decide_eq_false h2
        have HF := Lib.hid (HBAD.out 1 (by unfold errW; rw [if_pos (by simp [h2])]) (by decide))
        clear h1 h2 HBAD
        go_wp2_with (with_reducible refine (thread_any _ _).mono ?_; rintro e w' ⟨rfl, rfl⟩)
        go_ret3
        rw [HF.out.1, HF.out.2]
        exact ⟨none, 0, rfl, Arr.nil _ _ _, HBB.out⟩
      have H12 : Hid (okT x.Thread ∧ okT x.For) := ⟨h1, h2⟩
      have hd1 : decide (okT x.Thread) = true := decide_eq_true h1
      have hd2 : decide (okT x.For) = true := decide_eq_true h2
      clear h1 h2
      cases h3 : nextOf (l.take k) x.Thread with
      | some m =>
        have HF := Lib.hid (HBAD.out 6 (by unfold errW; rw [if_neg (by simpa using H12.out), if_pos (by rw [h3]; rfl)]) (by decide))
        have H3 := Lib.hid h3
        clear h3 HBAD
        go_wp2_with (first | (with_reducible refine (thread_any _ _).mono ?_; rintro e w' ⟨rfl, rfl⟩) | (with_reducible refine wp_imap_getok rfl rfl under_int under_int under_map (zero_int _) rfl HVB.out rfl i1 ?_; rw [H3.out]))
        go_ret3
        rw [HF.out.1, HF.out.2]
        exact ⟨none, 0, rfl, Arr.nil _ _ _, HBB.out⟩
      | none =>
        have HZ : Hid (errTo l (k + 1) = 0) := by
          show _ = _
          rw [errTo_succ HE0.out HX.out]
          unfold errW
          rw [if_neg (by simpa using H12.out), h3]
          rfl
        have HNX := Lib.hid (nextOf_put HX.out h3)
        have H3 := Lib.hid h3
        clear h3 HBAD
        go_wp2_with (first | (with_reducible refine (thread_any _ _).mono ?_; rintro e w' ⟨rfl, rfl⟩) | (with_reducible refine wp_imap_getok rfl rfl under_int under_int under_map (zero_int _) rfl HVB.out rfl i1 ?_; rw [H3.out]) | (with_reducible refine wp_imap_put rfl rfl under_int under_int under_map rfl HVB.out (by omega) rfl rfl i1 i2 fun w' hm' hg' => ?_; have HM' := Lib.hid hm'; have HG := Lib.hid hg'; clear hm' hg'))
        go_roundw
        case rel => exact ⟨k + 1, by omega, by go_num, HZ.out, HM'.out.congr (fun m => (HNX.out m).symm), below_map HBB.out HG.out (Nat.le_refl _)⟩
        case measure => simp [intOf]; omega
    · obtain rfl : k = n := by omega
      have HTO : Hid (errTo l l.length = 0) := by show _ = _; rw [HN.out]; exact HE0.out
      have HOK : Hid (errOf l = 0) := by show _ = _; unfold errOf; rw [if_neg (by rw [HN.out]; omega)]; exact HTO.out
      have HRR : Hid (ringRes l = ringOf l) := by show _ = _; unfold ringRes; rw [if_pos HOK.out]
      have HVV : Hid (Vars wr w.heap.size 8 (nextOf l)) := by
        have := HV.out.mono (m := 8) (by omega)
        rw [← HN.out, List.take_of_length_le (Nat.le_refl _)] at this
        exact this
      obtain ⟨R, hR⟩ : ∃ R, R = ringOf l := ⟨_, rfl⟩
      have HR := Lib.hid hR
      have HREQ : Hid (ringRes l = R) := by show _ = _; rw [HRR.out, hR]
      have hgw := HVV.out.lt
      clear hR h h' HV HE0
      go_wp2_with fail
      go_loopw [48] (fun i w' => ∃ t : Nat, t ≤ 8 ∧ i = .int .i64 t ∧ ringFrom l (8 - t) t = R ∧ Vars w' w.heap.size 8 (nextOf l) ∧ w.heap.size < w'.heap.size ∧ Below w.heap.size w w') (fun i _ => 8 - (intOf i).toNat)
      case atStart => exact ⟨0, Nat.zero_le _, rfl, HR.out.symm, HVV.out, hgw, HB.out⟩
      case round =>
        obtain ⟨t, ht, rfl, hrf, hv, hgl, hb⟩ := hrel
        have HRF := Lib.hid hrf; have HV := Lib.hid hv; have HB1 := Lib.hid hb
        clear hrf hv hb HVV HB hgw
        by_cases ht8 : t < 8
        · have hdt : decide (t < 8) = true := decide_eq_true ht8
          have hti : I64 (t : Int) := by unfold I64; omega
          have HTT : Hid (okT (t : Int)) := by show okT _; unfold okT; omega
          have HV1 : Hid (Vars (wr.alloc (.cells #[.int .i64 (t : Int)] 3)) w.heap.size 8 (nextOf l)) := HV.out.boxed _
          have HO1 : Hid (Own (fun _ => False) (wr.alloc (.cells #[.int .i64 (t : Int)] 3)) (w.heap.size + 1) 3 (.slice (some ⟨wr.heap.size, 0, none⟩) 1 1) (way l t 1)) := own_base (own_one hti) (by omega)
          have HB2 : Hid (Below w.heap.size w (wr.alloc (.cells #[.int .i64 (t : Int)] 3))) := HB1.out.alloc (by omega) _
          have hg2 : w.heap.size < (wr.alloc (.cells #[.int .i64 (t : Int)] 3)).heap.size := by simp; omega
          go_wp2_with (with_reducible refine wp_imap_getok rfl rfl under_int under_int under_map (zero_int _) rfl HV1.out rfl hti ?_)
          go_loopw [11, 12, 13] (onRel w l w.heap.size t) (fun v _ _ _ => 9 - lenV v)
          case atStart => exact ⟨0, Along.zero l t, HO1.out, rfl, rfl, HB2.out, HV1.out, hg2⟩
          case round =>
            obtain ⟨j, hal, hown, rfl, rfl, hb, hv, hgl⟩ := hrel
            have hj8 := hal.lt HTO.out HTT.out
            have HAL := Lib.hid hal; have HO := Lib.hid hown; have HBB := Lib.hid hb; have HVB := Lib.hid hv
            have hwl := way_len l t (j + 1)
            obtain ⟨a9, c9, rfl, -, -, hw9⟩ := hown.arr
            have HW9 := Lib.hid hw9
            have HWL := Lib.hid hwl
            clear hal hown hb hv HV1 HO1 HB2 hw9
            rw [hwl] at HO ⊢
            have hbs := HBB.out.size
            cases hp : path l t (j + 1) with
            | none =>
              have HNX := Lib.hid (ring_next HRF.out ht8 (HAL.out.ends hp))
              have e2 : (none : Option Int).isSome = false := rfl
              clear hp hwl
              go_wp2_with fail
              go_roundw
              case rel => exact ⟨t + 1, by omega, by go_num, HNX.out, HVB.out, hgl, HBB.out⟩
              case measure => simp [intOf]; omega
            | some m =>
              have hmi : I64 m := by have := path_ok HTO.out HTT.out hp; unfold okT at this; unfold I64; omega
              have e1 : (some m : Option Int).getD 0 = m := rfl
              have e2 : (some m : Option Int).isSome = true := rfl
              rw [e1, e2]
              have HP := Lib.hid hp
              have HPN : Hid (path l t (j + 1 + 1) = nextOf l m) := by show (path l t (j + 1)).bind _ = _; rw [hp]; rfl
              clear hp e1 e2
              by_cases hmt : m = t
              · have heq : (m == (t : Int)) = true := by simpa using hmt
                have HBK : Hid (back l t = some j) := HAL.out.found HTO.out HTT.out (by rw [HP.out, hmt])
                have HRR2 := Lib.hid (ring_back HRF.out ht8 HBK.out)
                clear hmt
                go_wp2_with fail
                go_ret3
                rw [HREQ.out, HOK.out, HRR2.out]
                exact ⟨a9, c9, by rw [way_len]; rfl, HW9.out.mono (fun b hb => by have := hb.resolve_left id; exact ⟨by omega, this.2⟩), HBB.out⟩
              · have heq : (m == (t : Int)) = false := by simpa using hmt
                by_cases hin : m ∈ way l t (j + 1)
                · have hd1 : decide (m ∈ way l t (j + 1)) = true := decide_eq_true hin
                  have HNX := Lib.hid (ring_next HRF.out ht8 (HAL.out.stuck HP.out hmt hin))
                  clear hin hmt
                  go_wp2_with (with_reducible refine (contains_any HWL.out HW9.out).mono ?_; rintro e w' ⟨rfl, rfl⟩)
                  go_roundw
                  case rel => exact ⟨t + 1, by omega, by go_num, HNX.out, HVB.out, hgl, HBB.out⟩
                  case measure => simp [intOf]; omega
                · have hd1 : decide (m ∈ way l t (j + 1)) = false := decide_eq_false hin
                  have HA2 := Lib.hid (HAL.out.step HP.out hin)
                  have HW2 : Hid (way l t (j + 1 + 1) = way l t (j + 1) ++ [m]) := by show _ = _; rw [way_succ, HP.out]; rfl
                  have hcell : ∀ w0 : World, Rep.cells (α := Int) (fun _ => False) w0 [.int .i64 m] m := fun _ => ⟨rfl, hmi⟩
                  clear hin hmt
                  go_wp2_with (first
                    | (with_reducible refine (contains_any HWL.out HW9.out).mono ?_; rintro e w' ⟨rfl, rfl⟩)
                    | ((at_builtin; with_reducible refine Try.wp_app22 rfl rfl rfl rfl rfl (by first | rfl | simp) (HO.out) (hcell _) (fun _ h => h.elim) (by (rw [way_len]; omega)) (by first | omega | (simp; omega)) fun v' w' hown' hg' => ?_); have HO' := Lib.hid hown'; have HG := Lib.hid hg'; have HBW := Lib.hid (HBB.out.grown hg' hbs (fun r hr => by have := (HO.out.lt r hr).1; omega)); clear hown' hg'; have HV' := Lib.hid (HVB.out.kept HG.out (fun e => by have := (HO.out.lt _ e.symm).1; omega)))
                    | (with_reducible refine wp_imap_getok rfl rfl under_int under_int under_map (zero_int _) rfl HV'.out rfl hmi ?_))
                  go_roundw
                  case rel =>
                    exact ⟨j + 1, HA2.out, by rw [HW2.out]; exact HO'.out, by rw [HPN.out], by rw [HPN.out], HBW.out, HV'.out, HV'.out.lt⟩
                  case measure =>
                    obtain ⟨a8, c8, rfl, -, -, -⟩ := HO'.out.arr
                    simp [lenV, way_len] <;> omega
        · obtain rfl : t = 8 := by omega
          have HRE : Hid (R = []) := by have := HRF.out; rw [← this]; rfl
          go_wp2_with fail
          go_ret3
          rw [HREQ.out, HOK.out, HRE.out]
          exact ⟨none, 0, rfl, Arr.nil _ _ _, HB1.out⟩
end Go.Proofs.Ytimlhjjdaggiiaa.ring
