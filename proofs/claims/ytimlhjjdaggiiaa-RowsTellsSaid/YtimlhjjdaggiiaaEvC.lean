/- Threads, walked. -/
import Derived.Test.YtimlhjjdaggiiaaEvB
set_option linter.unusedVariables false
set_option linter.unusedSimpArgs false
namespace Go.Proofs.Ytimlhjjdaggiiaa
open Go.Bk Go.RowKit

def thrRel (w : World) (l : List Api.Event) (m : Nat) (i : Value) (w' : World) : Prop :=
  ∃ (q : Nat) (vs : List Value), q ≤ l.length ∧ i = .int .i64 q ∧ OwnRows w' w.heap.size w.heap.size 22 3 vs (thrTo l m q) ∧ Below w.heap.size w w'

set_option maxRecDepth 100000 in
set_option maxHeartbeats 1000000 in
theorem threads_any {S : Nat → Prop} {w : World} {a : Option Addr} {c : Nat} {l : List Api.Event} {n : Int} (h : Arr S w a l) (hS : ∀ b, S b → b < w.heap.size) :
    Calls Try.prog 23 #[.slice a l.length c, .int .i64 n] w (RetLE w (thrRes l n)) := by
  have hm := h.small
  unfold maxLen at hm
  by_cases hl : 200 < l.length
  · have HE : Hid (thrRes l n = ([], 2)) := if_pos hl
    go_enter Try.func23, Try.ntmps23
    go_wp2_with fail
    go_ret2
    exact .err HE.out (Below.refl _ _)
  have hl' : l.length ≤ 200 := by omega
  have hdl : decide (200 < l.length) = false := by simpa using hl
  by_cases hn : n < 0 ∨ 8 < n
  · have HE : Hid (thrRes l n = ([], 1)) := by show _ = _; rw [thrRes, if_neg hl, if_pos hn]
    clear hl
    by_cases hn0 : n < 0
    · have hd1 : decide (n < 0) = true := by simp [hn0]
      clear hn hn0
      go_enter Try.func23, Try.ntmps23
      go_wp2_with fail
      go_ret2
      exact .err HE.out (Below.refl _ _)
    · have hd1 : decide (n < 0) = false := by simpa using hn0
      have hd2 : decide (8 < n) = true := by simp; omega
      clear hn hn0
      go_enter Try.func23, Try.ntmps23
      go_wp2_with fail
      go_ret2
      exact .err HE.out (Below.refl _ _)
  obtain ⟨m, rfl⟩ : ∃ m : Nat, n = m := ⟨n.toNat, by omega⟩
  have HE : Hid (thrRes l m = (thrTo l m l.length, 0)) := by show _ = _; rw [thrRes, if_neg hl, if_neg hn, Int.toNat_natCast]
  have hd1 : decide ((m : Int) < 0) = false := by simp
  have hd2 : decide (8 < (m : Int)) = false := by simp; omega
  have hm8 : m ≤ 8 := by omega
  clear hl hn
  go_enter Try.func23, Try.ntmps23
  go_wp2_with (with_reducible refine wp_make (n := m) rfl rfl Try.underlying43 Try.info22 rfl rfl rfl (by omega) (by unfold maxLen; omega) fun w1 hblk hbel hsz => ?_)
  have HK : Hid (OwnRows w1 w.heap.size w.heap.size 22 3 (List.replicate m (.slice none 0 0)) (thrTo l m 0)) := by show OwnRows _ _ _ _ _ _ _; rw [thrTo_zero]; exact OwnRows.made hblk (Nat.le_refl _)
  have HB := Lib.hid hbel
  clear hblk hbel
  go_loopw [24] (thrRel w l m) (fun i _ => l.length - (intOf i).toNat)
  case atStart => exact ⟨0, _, Nat.zero_le _, rfl, HK.out, HB.out⟩
  case round =>
    obtain ⟨q, vs, hq, rfl, hrows, hb⟩ := hrel
    have HR := Lib.hid hrows; have HB2 := Lib.hid hb
    have hbs := hb.size
    have hgs := hrows.blk.lt
    have h' := h.keep (w' := wr) (fun b hb' => hb.block b (hS b hb'))
    clear hrows hb HK HB
    by_cases hlt : q < l.length
    · obtain ⟨e, he⟩ : ∃ y, l[q]? = some y := ⟨_, List.getElem?_eq_getElem hlt⟩
      have HEE := Lib.hid he
      obtain ⟨b, off, rfl, hSb, q0, q1, q2, q3, q4, q5, q6, q7, q8, q9, q10, q11, -⟩ := api_Event_elem h' he
      have hbl := hS b hSb
      clear he h'
      by_cases ht : e.Thread < 0 ∨ (m : Int) ≤ e.Thread
      · have HS := Lib.hid (thrTo_skip (m := m) HEE.out ht)
        by_cases ht0 : e.Thread < 0
        · have hd3 : decide (0 ≤ e.Thread) = false := by simp; omega
          clear ht ht0
          go_wp2_with fail
          go_roundw
          case rel => exact ⟨q + 1, vs, by omega, by go_num, by rw [← HS.out]; exact HR.out.below ((Below.refl _ _).alloc (Nat.le_refl _) _), HB2.out.alloc hbs _⟩
          case measure => simp [intOf] <;> omega
        · have hd3 : decide (0 ≤ e.Thread) = true := by simp; omega
          have hd4 : decide (e.Thread < (m : Int)) = false := by simp; omega
          clear ht ht0
          go_wp2_with fail
          go_roundw
          case rel => exact ⟨q + 1, vs, by omega, by go_num, by rw [← HS.out]; exact HR.out.below ((Below.refl _ _).alloc (Nat.le_refl _) _), HB2.out.alloc hbs _⟩
          case measure => simp [intOf] <;> omega
      · obtain ⟨t, htt⟩ : ∃ t : Nat, e.Thread = t := ⟨e.Thread.toNat, by omega⟩
        have htm : t < m := by omega
        have HTT := Lib.hid htt
        rw [htt] at q2
        have hd3 : decide ((0 : Int) ≤ t) = true := by simp
        have hd4 : decide ((t : Int) < (m : Int)) = true := by simp; omega
        clear ht htt
        go_wp2_with fail
        obtain ⟨xl, hxl⟩ : ∃ x, (thrTo l m q)[t]? = some x := ⟨_, thrTo_get htm⟩
        have HS := Lib.hid (thrTo_succ HEE.out HTT.out htm hxl)
        have hxlen : xl.length ≤ 200 := by
          have := thrTo_get (l := l) (q := q) htm
          rw [this] at hxl; cases hxl
          exact Nat.le_trans (placesTo_len _ _ _) (by omega)
        obtain ⟨v, hvt, hown, -, -⟩ := HR.out.at hxl
        refine cut_wp (fun wz => Grow wr wz ∧ wr.heap.size < wz.heap.size ∧ wz.cell? ⟨wr.heap.size, 2, none⟩ = some (.int .i64 t)) ?_ ?_
        · exact ⟨(Below.refl _ _).alloc (Nat.le_refl _) _, by simp, by simp⟩
        rintro wz ⟨hbz, hsz, hcz⟩
        have HRZ := Lib.hid (HR.out.below hbz)
        have HBZ := Lib.hid (HB2.out.trans (hbz.mono hbs))
        obtain ⟨v2, hv2, hownz, hcr, hfr⟩ := HRZ.out.at hxl
        obtain rfl : v = v2 := Option.some.inj (hvt.symm.trans hv2)
        have hownd : Own (fun _ => False) wz.drew w.heap.size 3 v xl := hownz
        have HOWN := Lib.hid hownd; have HVT := Lib.hid hvt; have HXL := Lib.hid hxl
        have hoff : Hid (v.ownBlock ≠ some w.heap.size) := HR.out.off t v hvt
        have hvlt : Hid (∀ k, v.ownBlock = some k → k < wr.heap.size) := fun k hk => (hown.lt k hk).2
        have hgz : w.heap.size < wz.heap.size := by omega
        clear hbz hv2 hownz hownd hvt hxl hown
        generalize hgb : wr.heap.size = gb at *
        have HGB := Lib.hid hgb
        clear q0 q1 q2 q3 q4 q5 q6 q7 q8 q9 q10 q11 HR HB2 hgb
        have HGZ : Hid (w.heap.size < wz.drew.heap.size) := hgz
        have HSZ : Hid (gb < wz.drew.heap.size) := hsz
        have HVB : Hid (v.ownBlock ≠ some gb) := fun e => absurd (hvlt.out gb e) (Nat.lt_irrefl _)
        have HCR : Hid (wz.drew.cell? ⟨w.heap.size, t, none⟩ = some v) := hcr
        have HFR : Hid (wz.drew.frozen? ⟨w.heap.size, t, none⟩ = false) := hfr
        have HCZ : Hid (wz.drew.cell? ⟨gb, 2, none⟩ = some (.int .i64 t)) := hcz
        have HRD : Hid (OwnRows wz.drew w.heap.size w.heap.size 22 3 vs (thrTo l m q)) := HRZ.out.below (Below.refl wz.heap.size wz).drew
        have HBD : Hid (Below w.heap.size w wz.drew) := HBZ.out.drew
        go_region_law (refine step_append1s (α := Int) (S := fun _ => False) (B := w.heap.size) (e := 3) (xs := xl) (y := (q : Int)) (cs := [.int .i64 (q : Int)]) (w0 := wz.drew) (e' := 3) rfl rfl Try.underlying22 Try.infoRep22 (by decide) (by decide) (by simp [Act.eval, Act.put]) (g := wz.heap.size) (by simp [Act.eval, Act.put]) rfl rfl HOWN.out (cells_int (by unfold I64; omega)) (fun _ h => h.elim) (by unfold maxLen; omega) (by omega) (by exact Nat.le_of_lt hgz) ?_; intro v' w' hown' hg' hst'; obtain ⟨va, vc, rfl, -, -, -⟩ := hown'.arr; have cR := (cell_grown (o := t) hg' HGZ.out hoff.out).trans HCR.out; have fR := (frozen_grown (o := t) hg' HGZ.out hoff.out).trans HFR.out; have cB := (cell_grown (o := 2) hg' HSZ.out HVB.out).trans HCZ.out; rw [show (xl ++ [(q : Int)]).length = xl.length + 1 by simp] at hown' hst'; have HN := Lib.hid hown'; have HG := Lib.hid hg'; have HST := Lib.hid hst'; clear hown' hg' hst')
        all_goals
          clear cR fR cB
          go_wp2_with fail
          go_roundw
          case rel => exact ⟨q + 1, _, by omega, by go_num, by rw [← HS.out]; exact HRD.out.grow HVT.out HG.out HN.out HST.out, HRD.out.belowOf HBD.out HVT.out HXL.out HG.out⟩
          case measure => simp [intOf] <;> omega
    · obtain rfl : q = l.length := by omega
      clear h'
      go_wp2_with fail
      go_ret2
      have hA := HR.out.arr (w0 := w) (by rw [thrTo_len]; unfold maxLen; omega)
      have hx : RetLE w (thrRes l m) (.returned (.tuple #[.slice (some ⟨w.heap.size, 0, none⟩) (thrTo l m l.length).length m, .int .i64 0])) wr := .ok HE.out HB2.out hA (by rw [thrTo_len]; omega) (by simp)
      rw [thrTo_len] at hx
      exact hx
end Go.Proofs.Ytimlhjjdaggiiaa
