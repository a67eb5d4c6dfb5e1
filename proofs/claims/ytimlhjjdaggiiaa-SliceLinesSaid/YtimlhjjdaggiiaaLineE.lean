/- What the reference says that lines put, walked. -/
import Derived.Test.YtimlhjjdaggiiaaLineC
set_option linter.unusedVariables false
set_option linter.unusedSimpArgs false
namespace Go.Proofs.Ytimlhjjdaggiiaa.line
open Go.Bk Go.RowKit

def intsV (xs : List Int) : List Value := xs.map (Value.int .i64)
def tab (l : List Api.DLet) (n k : Nat) : List Int := vals l k ++ List.replicate (n + 1 - k) 0
theorem tab_get {l : List Api.DLet} {n k j : Nat} (h : j < k) : (intsV (tab l n k))[j]? = some (.int .i64 ((vals l k).getD j 0)) := by
  unfold intsV tab
  rw [List.getElem?_map, List.getElem?_append_left (by rw [vals_len]; exact h)]
  have : (vals l k)[j]? = some ((vals l k)[j]'(by rw [vals_len]; exact h)) := List.getElem?_eq_getElem _
  simp [List.getD, this]
theorem tab_set {l : List Api.DLet} {n k : Nat} {x : Api.DLet} (h : l[k]? = some x) (hk : k ≤ n) {v : Int} (hv : opVal x (look l (vals l k) k x.A) (look l (vals l k) k x.B) = v) :
    (intsV (tab l n k)).set k (.int .i64 v) = intsV (tab l n (k + 1)) := by
  unfold intsV tab
  rw [← List.map_set, vals_succ h, hv, List.set_append_right _ _ (by rw [vals_len]; omega), vals_len, Nat.sub_self, show n + 1 - k = (n + 1 - (k + 1)) + 1 by omega, List.replicate_succ]
  simp
theorem last_none {l : List Api.DLet} {vs : List Int} {n : Int} {k : Nat} (h : lastBelow l n k = none) : lastInt l n k = -1 ∧ look l vs k n = 0 := by unfold lastInt look; rw [h]; exact ⟨rfl, rfl⟩
theorem last_some {l : List Api.DLet} {vs : List Int} {n : Int} {k j : Nat} (h : lastBelow l n k = some j) : lastInt l n k = (j : Int) ∧ look l vs k n = vs.getD j 0 := by unfold lastInt look; rw [h]; exact ⟨rfl, rfl⟩

theorem tab_at {l : List Api.DLet} {n k : Nat} (h : k ≤ n) : (intsV (tab l n k))[k]? = some (.int .i64 0) := by
  unfold intsV tab
  rw [List.getElem?_map, List.getElem?_append_right (by rw [vals_len]; omega), vals_len, Nat.sub_self, show n + 1 - k = (n - k) + 1 by omega, List.replicate_succ]
  rfl
theorem blk_step {w : World} {g : Nat} {e : TypeId} {l : List Api.DLet} {n k : Nat} {x : Api.DLet} (hb : Blk w g e (intsV (tab l n k))) (h : l[k]? = some x) (hk : k ≤ n) {v : Int} (hv : opVal x (look l (vals l k) k x.A) (look l (vals l k) k x.B) = v) :
    Blk (w.setCell ⟨g, k, none⟩ (.int .i64 v)) g e (intsV (tab l n (k + 1))) := by
  have := hb.set k (.int .i64 v)
  rw [tab_set h hk hv] at this
  exact this

set_option maxRecDepth 100000 in
set_option maxHeartbeats 2000000 in
theorem rrun_any {S : Nat → Prop} {w : World} {a : Option Addr} {c n : Nat} {l : List Api.DLet} (h : Arr S w a l) (hS : ∀ b, S b → b < w.heap.size) (hn : n < l.length) (hlen : l.length ≤ 200) :
    Calls Try.prog 55 #[.slice a l.length c, .int .i64 n] w fun e w' => e = .returned (.int .i64 (runOf l n)) ∧ Grow w w' := by
  have hw : IntKind.i64.wrap ((n : Int) + 1) = ((n + 1 : Nat) : Int) := by rw [IntWalk.i64_in _ (by omega)]; omega
  go_enter Try.func55, Try.ntmps55
  go_wp2_with (with_reducible refine wp_make (n := n + 1) rfl rfl Try.underlying22 Try.info3 rfl rfl rfl (by omega) (by unfold maxLen; omega) fun w1 hblk hbel hsz => ?_
               have HK : Hid (Blk w1 w.heap.size 3 (intsV (tab l n 0))) := by show Blk _ _ _ _; simpa [intsV, tab, vals] using hblk
               have HB := Lib.hid hbel
               clear hblk hbel)
  go_loopw [6] (fun v w' => ∃ k : Nat, k ≤ n + 1 ∧ v = .int .i64 k ∧ Blk w' w.heap.size 3 (intsV (tab l n k)) ∧ Below w.heap.size w w') (fun v _ => n + 1 - (intOf v).toNat)
  case atStart => exact ⟨0, Nat.zero_le _, rfl, HK.out, HB.out⟩
  case round =>
    obtain ⟨k, hk, rfl, hblk, hb⟩ := hrel
    have HK := Lib.hid hblk
    have HB := Lib.hid hb
    have h' := h.keep (w' := wr) (fun b hb' => HB.out.block b (hS b hb'))
    have hgs := hblk.lt
    clear hblk hb
    by_cases hlt : k ≤ n
    · have hdk : decide ((k : Int) ≤ (n : Int)) = true := by simp; omega
      obtain ⟨x, hx⟩ : ∃ x, l[k]? = some x := ⟨_, List.getElem?_eq_getElem (by omega)⟩
      obtain ⟨b, off, rfl, hSb, q1, q2, q3, q4, g1, g2, g3, g4⟩ := api_DLet_elem h' hx
      have HX := Lib.hid hx
      have HA := Lib.hid h'
      clear h' hx h
      have hla : (lastInt l x.A k = -1 ∧ look l (vals l k) k x.A = 0) ∨ ∃ j, j < k ∧ lastInt l x.A k = (j : Int) ∧ look l (vals l k) k x.A = (vals l k).getD j 0 := by
        cases hj : lastBelow l x.A k with
        | none => exact .inl (last_none hj)
        | some j => exact .inr ⟨j, lastBelow_lt hj, last_some hj⟩
      have hlb : (lastInt l x.B k = -1 ∧ look l (vals l k) k x.B = 0) ∨ ∃ j, j < k ∧ lastInt l x.B k = (j : Int) ∧ look l (vals l k) k x.B = (vals l k).getD j 0 := by
        cases hj : lastBelow l x.B k with
        | none => exact .inl (last_none hj)
        | some j => exact .inr ⟨j, lastBelow_lt hj, last_some hj⟩
      have qk := HK.out.cell (tab_at (l := l) hlt)
      have fk : wr.frozen? ⟨w.heap.size, k, none⟩ = false := HK.out.frozen k
      have hop : x.Op = 0 ∨ (¬ x.Op = 0 ∧ x.Op = 1) ∨ (¬ x.Op = 0 ∧ ¬ x.Op = 1 ∧ x.Op = 2) ∨ (¬ x.Op = 0 ∧ ¬ x.Op = 1 ∧ ¬ x.Op = 2) := by omega
      rcases hop with h0 | h0 | h0 | h0
      · have hd : (x.Op == 0) = true := by simpa using h0
        have HV : Hid (opVal x (look l (vals l k) k x.A) (look l (vals l k) k x.B) = wrap64 (look l (vals l k) k x.A + look l (vals l k) k x.B)) := by show _ = _; unfold opVal; rw [if_pos h0]; exact wrap_eq _
        clear h0
        rcases hla with hla | ⟨ja, hja, hla⟩ <;> rcases hlb with hlb | ⟨jb, hjb, hlb⟩
        · have HLA := Lib.hid hla; have HLB := Lib.hid hlb
          clear hla hlb
          go_wp2_with (first | (with_reducible refine (last_any (n := x.A) HA.out (by omega) g3).mono ?_; rintro e w' ⟨rfl, rfl⟩; rw [HLA.out.1]) | (with_reducible refine (last_any (n := x.B) HA.out (by omega) g4).mono ?_; rintro e w' ⟨rfl, rfl⟩; rw [HLB.out.1]))
          go_roundw
          case rel => exact ⟨k + 1, by omega, by go_num, blk_step HK.out HX.out hlt (by rw [HV.out, HLA.out.2, HLB.out.2]; first | rfl | (simp; done) | (simp; rfl) | (simp [wrap64])), HB.out.setCell (p := ⟨w.heap.size, k, none⟩) (Nat.le_refl _) _⟩
          case measure => simp [intOf] <;> omega
        · have HLA := Lib.hid hla; have HLB := Lib.hid hlb
          have qb := HK.out.cell (tab_get (l := l) (n := n) hjb)
          have db : decide (0 ≤ (jb : Int)) = true := by simp
          clear hla hlb
          go_wp2_with (first | (with_reducible refine (last_any (n := x.A) HA.out (by omega) g3).mono ?_; rintro e w' ⟨rfl, rfl⟩; rw [HLA.out.1]) | (with_reducible refine (last_any (n := x.B) HA.out (by omega) g4).mono ?_; rintro e w' ⟨rfl, rfl⟩; rw [HLB.out.1]))
          go_roundw
          case rel => exact ⟨k + 1, by omega, by go_num, blk_step HK.out HX.out hlt (by rw [HV.out, HLA.out.2, HLB.out.2]; first | rfl | (simp; done) | (simp; rfl) | (simp [wrap64])), HB.out.setCell (p := ⟨w.heap.size, k, none⟩) (Nat.le_refl _) _⟩
          case measure => simp [intOf] <;> omega
        · have HLA := Lib.hid hla; have HLB := Lib.hid hlb
          have qa := HK.out.cell (tab_get (l := l) (n := n) hja)
          have da : decide (0 ≤ (ja : Int)) = true := by simp
          clear hla hlb
          go_wp2_with (first | (with_reducible refine (last_any (n := x.A) HA.out (by omega) g3).mono ?_; rintro e w' ⟨rfl, rfl⟩; rw [HLA.out.1]) | (with_reducible refine (last_any (n := x.B) HA.out (by omega) g4).mono ?_; rintro e w' ⟨rfl, rfl⟩; rw [HLB.out.1]))
          go_roundw
          case rel => exact ⟨k + 1, by omega, by go_num, blk_step HK.out HX.out hlt (by rw [HV.out, HLA.out.2, HLB.out.2]; first | rfl | (simp; done) | (simp; rfl) | (simp [wrap64])), HB.out.setCell (p := ⟨w.heap.size, k, none⟩) (Nat.le_refl _) _⟩
          case measure => simp [intOf] <;> omega
        · have HLA := Lib.hid hla; have HLB := Lib.hid hlb
          have qa := HK.out.cell (tab_get (l := l) (n := n) hja)
          have da : decide (0 ≤ (ja : Int)) = true := by simp
          have qb := HK.out.cell (tab_get (l := l) (n := n) hjb)
          have db : decide (0 ≤ (jb : Int)) = true := by simp
          clear hla hlb
          go_wp2_with (first | (with_reducible refine (last_any (n := x.A) HA.out (by omega) g3).mono ?_; rintro e w' ⟨rfl, rfl⟩; rw [HLA.out.1]) | (with_reducible refine (last_any (n := x.B) HA.out (by omega) g4).mono ?_; rintro e w' ⟨rfl, rfl⟩; rw [HLB.out.1]))
          go_roundw
          case rel => exact ⟨k + 1, by omega, by go_num, blk_step HK.out HX.out hlt (by rw [HV.out, HLA.out.2, HLB.out.2]; first | rfl | (simp; done) | (simp; rfl) | (simp [wrap64])), HB.out.setCell (p := ⟨w.heap.size, k, none⟩) (Nat.le_refl _) _⟩
          case measure => simp [intOf] <;> omega
      · have hd : (x.Op == 0) = false := by simpa using h0.1
        have hd1 : (x.Op == 1) = true := by simpa using h0.2
        have HV : Hid (opVal x (look l (vals l k) k x.A) (look l (vals l k) k x.B) = wrap64 (look l (vals l k) k x.A - look l (vals l k) k x.B)) := by show _ = _; unfold opVal; rw [if_neg h0.1, if_pos h0.2]; exact wrap_eq _
        clear h0
        rcases hla with hla | ⟨ja, hja, hla⟩ <;> rcases hlb with hlb | ⟨jb, hjb, hlb⟩
        · have HLA := Lib.hid hla; have HLB := Lib.hid hlb
          clear hla hlb
          go_wp2_with (first | (with_reducible refine (last_any (n := x.A) HA.out (by omega) g3).mono ?_; rintro e w' ⟨rfl, rfl⟩; rw [HLA.out.1]) | (with_reducible refine (last_any (n := x.B) HA.out (by omega) g4).mono ?_; rintro e w' ⟨rfl, rfl⟩; rw [HLB.out.1]))
          go_roundw
          case rel => exact ⟨k + 1, by omega, by go_num, blk_step HK.out HX.out hlt (by rw [HV.out, HLA.out.2, HLB.out.2]; first | rfl | (simp; done) | (simp; rfl) | (simp [wrap64])), HB.out.setCell (p := ⟨w.heap.size, k, none⟩) (Nat.le_refl _) _⟩
          case measure => simp [intOf] <;> omega
        · have HLA := Lib.hid hla; have HLB := Lib.hid hlb
          have qb := HK.out.cell (tab_get (l := l) (n := n) hjb)
          have db : decide (0 ≤ (jb : Int)) = true := by simp
          clear hla hlb
          go_wp2_with (first | (with_reducible refine (last_any (n := x.A) HA.out (by omega) g3).mono ?_; rintro e w' ⟨rfl, rfl⟩; rw [HLA.out.1]) | (with_reducible refine (last_any (n := x.B) HA.out (by omega) g4).mono ?_; rintro e w' ⟨rfl, rfl⟩; rw [HLB.out.1]))
          go_roundw
          case rel => exact ⟨k + 1, by omega, by go_num, blk_step HK.out HX.out hlt (by rw [HV.out, HLA.out.2, HLB.out.2]; first | rfl | (simp; done) | (simp; rfl) | (simp [wrap64])), HB.out.setCell (p := ⟨w.heap.size, k, none⟩) (Nat.le_refl _) _⟩
          case measure => simp [intOf] <;> omega
        · have HLA := Lib.hid hla; have HLB := Lib.hid hlb
          have qa := HK.out.cell (tab_get (l := l) (n := n) hja)
          have da : decide (0 ≤ (ja : Int)) = true := by simp
          clear hla hlb
          go_wp2_with (first | (with_reducible refine (last_any (n := x.A) HA.out (by omega) g3).mono ?_; rintro e w' ⟨rfl, rfl⟩; rw [HLA.out.1]) | (with_reducible refine (last_any (n := x.B) HA.out (by omega) g4).mono ?_; rintro e w' ⟨rfl, rfl⟩; rw [HLB.out.1]))
          go_roundw
          case rel => exact ⟨k + 1, by omega, by go_num, blk_step HK.out HX.out hlt (by rw [HV.out, HLA.out.2, HLB.out.2]; first | rfl | (simp; done) | (simp; rfl) | (simp [wrap64])), HB.out.setCell (p := ⟨w.heap.size, k, none⟩) (Nat.le_refl _) _⟩
          case measure => simp [intOf] <;> omega
        · have HLA := Lib.hid hla; have HLB := Lib.hid hlb
          have qa := HK.out.cell (tab_get (l := l) (n := n) hja)
          have da : decide (0 ≤ (ja : Int)) = true := by simp
          have qb := HK.out.cell (tab_get (l := l) (n := n) hjb)
          have db : decide (0 ≤ (jb : Int)) = true := by simp
          clear hla hlb
          go_wp2_with (first | (with_reducible refine (last_any (n := x.A) HA.out (by omega) g3).mono ?_; rintro e w' ⟨rfl, rfl⟩; rw [HLA.out.1]) | (with_reducible refine (last_any (n := x.B) HA.out (by omega) g4).mono ?_; rintro e w' ⟨rfl, rfl⟩; rw [HLB.out.1]))
          go_roundw
          case rel => exact ⟨k + 1, by omega, by go_num, blk_step HK.out HX.out hlt (by rw [HV.out, HLA.out.2, HLB.out.2]; first | rfl | (simp; done) | (simp; rfl) | (simp [wrap64])), HB.out.setCell (p := ⟨w.heap.size, k, none⟩) (Nat.le_refl _) _⟩
          case measure => simp [intOf] <;> omega
      · have hd : (x.Op == 0) = false := by simpa using h0.1
        have hd1 : (x.Op == 1) = false := by simpa using h0.2.1
        have hd2 : (x.Op == 2) = true := by simpa using h0.2.2
        have HV : Hid (opVal x (look l (vals l k) k x.A) (look l (vals l k) k x.B) = wrap64 (look l (vals l k) k x.A * look l (vals l k) k x.B)) := by show _ = _; unfold opVal; rw [if_neg h0.1, if_neg h0.2.1, if_pos h0.2.2]; exact wrap_eq _
        clear h0
        rcases hla with hla | ⟨ja, hja, hla⟩ <;> rcases hlb with hlb | ⟨jb, hjb, hlb⟩
        · have HLA := Lib.hid hla; have HLB := Lib.hid hlb
          clear hla hlb
          go_wp2_with (first | (with_reducible refine (last_any (n := x.A) HA.out (by omega) g3).mono ?_; rintro e w' ⟨rfl, rfl⟩; rw [HLA.out.1]) | (with_reducible refine (last_any (n := x.B) HA.out (by omega) g4).mono ?_; rintro e w' ⟨rfl, rfl⟩; rw [HLB.out.1]))
          go_roundw
          case rel => exact ⟨k + 1, by omega, by go_num, blk_step HK.out HX.out hlt (by rw [HV.out, HLA.out.2, HLB.out.2]; first | rfl | (simp; done) | (simp; rfl) | (simp [wrap64])), HB.out.setCell (p := ⟨w.heap.size, k, none⟩) (Nat.le_refl _) _⟩
          case measure => simp [intOf] <;> omega
        · have HLA := Lib.hid hla; have HLB := Lib.hid hlb
          have qb := HK.out.cell (tab_get (l := l) (n := n) hjb)
          have db : decide (0 ≤ (jb : Int)) = true := by simp
          clear hla hlb
          go_wp2_with (first | (with_reducible refine (last_any (n := x.A) HA.out (by omega) g3).mono ?_; rintro e w' ⟨rfl, rfl⟩; rw [HLA.out.1]) | (with_reducible refine (last_any (n := x.B) HA.out (by omega) g4).mono ?_; rintro e w' ⟨rfl, rfl⟩; rw [HLB.out.1]))
          go_roundw
          case rel => exact ⟨k + 1, by omega, by go_num, blk_step HK.out HX.out hlt (by rw [HV.out, HLA.out.2, HLB.out.2]; first | rfl | (simp; done) | (simp; rfl) | (simp [wrap64])), HB.out.setCell (p := ⟨w.heap.size, k, none⟩) (Nat.le_refl _) _⟩
          case measure => simp [intOf] <;> omega
        · have HLA := Lib.hid hla; have HLB := Lib.hid hlb
          have qa := HK.out.cell (tab_get (l := l) (n := n) hja)
          have da : decide (0 ≤ (ja : Int)) = true := by simp
          clear hla hlb
          go_wp2_with (first | (with_reducible refine (last_any (n := x.A) HA.out (by omega) g3).mono ?_; rintro e w' ⟨rfl, rfl⟩; rw [HLA.out.1]) | (with_reducible refine (last_any (n := x.B) HA.out (by omega) g4).mono ?_; rintro e w' ⟨rfl, rfl⟩; rw [HLB.out.1]))
          go_roundw
          case rel => exact ⟨k + 1, by omega, by go_num, blk_step HK.out HX.out hlt (by rw [HV.out, HLA.out.2, HLB.out.2]; first | rfl | (simp; done) | (simp; rfl) | (simp [wrap64])), HB.out.setCell (p := ⟨w.heap.size, k, none⟩) (Nat.le_refl _) _⟩
          case measure => simp [intOf] <;> omega
        · have HLA := Lib.hid hla; have HLB := Lib.hid hlb
          have qa := HK.out.cell (tab_get (l := l) (n := n) hja)
          have da : decide (0 ≤ (ja : Int)) = true := by simp
          have qb := HK.out.cell (tab_get (l := l) (n := n) hjb)
          have db : decide (0 ≤ (jb : Int)) = true := by simp
          clear hla hlb
          go_wp2_with (first | (with_reducible refine (last_any (n := x.A) HA.out (by omega) g3).mono ?_; rintro e w' ⟨rfl, rfl⟩; rw [HLA.out.1]) | (with_reducible refine (last_any (n := x.B) HA.out (by omega) g4).mono ?_; rintro e w' ⟨rfl, rfl⟩; rw [HLB.out.1]))
          go_roundw
          case rel => exact ⟨k + 1, by omega, by go_num, blk_step HK.out HX.out hlt (by rw [HV.out, HLA.out.2, HLB.out.2]; first | rfl | (simp; done) | (simp; rfl) | (simp [wrap64])), HB.out.setCell (p := ⟨w.heap.size, k, none⟩) (Nat.le_refl _) _⟩
          case measure => simp [intOf] <;> omega
      · have hd : (x.Op == 0) = false := by simpa using h0.1
        have hd1 : (x.Op == 1) = false := by simpa using h0.2.1
        have hd2 : (x.Op == 2) = false := by simpa using h0.2.2
        have HV : Hid (opVal x (look l (vals l k) k x.A) (look l (vals l k) k x.B) = x.A) := by show _ = _; unfold opVal; rw [if_neg h0.1, if_neg h0.2.1, if_neg h0.2.2]
        clear h0
        rcases hla with hla | ⟨ja, hja, hla⟩ <;> rcases hlb with hlb | ⟨jb, hjb, hlb⟩
        · have HLA := Lib.hid hla; have HLB := Lib.hid hlb
          clear hla hlb
          go_wp2_with (first | (with_reducible refine (last_any (n := x.A) HA.out (by omega) g3).mono ?_; rintro e w' ⟨rfl, rfl⟩; rw [HLA.out.1]) | (with_reducible refine (last_any (n := x.B) HA.out (by omega) g4).mono ?_; rintro e w' ⟨rfl, rfl⟩; rw [HLB.out.1]))
          go_roundw
          case rel => exact ⟨k + 1, by omega, by go_num, blk_step HK.out HX.out hlt HV.out, HB.out.setCell (p := ⟨w.heap.size, k, none⟩) (Nat.le_refl _) _⟩
          case measure => simp [intOf] <;> omega
        · have HLA := Lib.hid hla; have HLB := Lib.hid hlb
          have qb := HK.out.cell (tab_get (l := l) (n := n) hjb)
          have db : decide (0 ≤ (jb : Int)) = true := by simp
          clear hla hlb
          go_wp2_with (first | (with_reducible refine (last_any (n := x.A) HA.out (by omega) g3).mono ?_; rintro e w' ⟨rfl, rfl⟩; rw [HLA.out.1]) | (with_reducible refine (last_any (n := x.B) HA.out (by omega) g4).mono ?_; rintro e w' ⟨rfl, rfl⟩; rw [HLB.out.1]))
          go_roundw
          case rel => exact ⟨k + 1, by omega, by go_num, blk_step HK.out HX.out hlt HV.out, HB.out.setCell (p := ⟨w.heap.size, k, none⟩) (Nat.le_refl _) _⟩
          case measure => simp [intOf] <;> omega
        · have HLA := Lib.hid hla; have HLB := Lib.hid hlb
          have qa := HK.out.cell (tab_get (l := l) (n := n) hja)
          have da : decide (0 ≤ (ja : Int)) = true := by simp
          clear hla hlb
          go_wp2_with (first | (with_reducible refine (last_any (n := x.A) HA.out (by omega) g3).mono ?_; rintro e w' ⟨rfl, rfl⟩; rw [HLA.out.1]) | (with_reducible refine (last_any (n := x.B) HA.out (by omega) g4).mono ?_; rintro e w' ⟨rfl, rfl⟩; rw [HLB.out.1]))
          go_roundw
          case rel => exact ⟨k + 1, by omega, by go_num, blk_step HK.out HX.out hlt HV.out, HB.out.setCell (p := ⟨w.heap.size, k, none⟩) (Nat.le_refl _) _⟩
          case measure => simp [intOf] <;> omega
        · have HLA := Lib.hid hla; have HLB := Lib.hid hlb
          have qa := HK.out.cell (tab_get (l := l) (n := n) hja)
          have da : decide (0 ≤ (ja : Int)) = true := by simp
          have qb := HK.out.cell (tab_get (l := l) (n := n) hjb)
          have db : decide (0 ≤ (jb : Int)) = true := by simp
          clear hla hlb
          go_wp2_with (first | (with_reducible refine (last_any (n := x.A) HA.out (by omega) g3).mono ?_; rintro e w' ⟨rfl, rfl⟩; rw [HLA.out.1]) | (with_reducible refine (last_any (n := x.B) HA.out (by omega) g4).mono ?_; rintro e w' ⟨rfl, rfl⟩; rw [HLB.out.1]))
          go_roundw
          case rel => exact ⟨k + 1, by omega, by go_num, blk_step HK.out HX.out hlt HV.out, HB.out.setCell (p := ⟨w.heap.size, k, none⟩) (Nat.le_refl _) _⟩
          case measure => simp [intOf] <;> omega
    · obtain rfl : k = n + 1 := by omega
      have hdk : decide (((n + 1 : Nat) : Int) ≤ (n : Int)) = false := by simp; omega
      have q := HK.out.cell (tab_get (l := l) (n := n) (k := n + 1) (j := n) (by omega))
      clear h' h
      go_wp2
      go_ret
      exact ⟨rfl, HB.out⟩
end Go.Proofs.Ytimlhjjdaggiiaa.line
