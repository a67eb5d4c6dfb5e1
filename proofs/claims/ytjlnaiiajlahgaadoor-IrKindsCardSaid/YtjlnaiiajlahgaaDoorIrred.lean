/- irred, walked. -/
import Derived.Test.YtjlnaiiajlahgaaDoorIrA
set_option linter.unusedVariables false
set_option linter.unusedSimpArgs false
namespace Go.Proofs.YtjlnaiiajlahgaaDoor.ir
open Go.Bk Go.RowKit

theorem below_cells {N : Nat} {w w' : World} (hb : Below N w w') : ∀ b o, b < N → w'.cell? ⟨b, o, none⟩ = w.cell? ⟨b, o, none⟩ := fun b o h => hb.cell (p := ⟨b, o, none⟩) h

set_option maxRecDepth 100000 in
theorem irred_any {w : World} : Calls Tryd.prog 9 #[] w fun e w' => e = .returned (.bool true) ∧ Below w.heap.size w w' := by
  go_enter Tryd.func9, Tryd.ntmps9
  go_wp2_with fail
  refine (asks_any (x := ⟨14, 4, 5, 6, 0, 0, ⟨0, 0⟩⟩) (by unfold I64; simp) (by unfold I64; simp) (by unfold I64; simp)).mono ?_
  rintro e w1 ⟨⟨a, c, rfl, -, ha⟩, hb⟩
  have HB := Lib.hid hb
  have ha' : Arr (Fresh w w1) (w1.alloc (.cells #[.int .i64 4, .int .i64 5, .int .i64 6] 3)) a (asksOf ⟨14, 4, 5, 6, 0, 0, ⟨0, 0⟩⟩) := ha.keep (fun b h => Below.heap_alloc _ _ _ h.2)
  clear hb ha
  go_wp2_with fail
  refine (eq_any ha' (Blk.arr (S := fun _ => True) (zs := [4, 5, 6]) (blk_new' rfl) (by unfold I64; simp) (by simp [maxLen]) trivial)).mono ?_
  rintro e w2 ⟨rfl, hq⟩
  have HQ := Lib.hid hq
  rw [show decide (asksOf ⟨14, 4, 5, 6, 0, 0, ⟨0, 0⟩⟩ = [4, 5, 6]) = true by decide]
  clear hq ha'
  go_wp2_with fail
  refine tells_any.mono ?_
  rintro e w3 ⟨rfl, hb3⟩
  have HB3 := Lib.hid hb3
  rw [show tellsOf 13 = true by decide]
  clear hb3
  go_wp2_with fail
  refine tells_any.mono ?_
  rintro e w4 ⟨rfl, hb4⟩
  have HB4 := Lib.hid hb4
  rw [show tellsOf 11 = false by decide]
  clear hb4
  go_wp2
  go_ret
  have h1 := HB.out
  have h2 : Below w.heap.size w w2 := (h1.alloc h1.size _).trans (HQ.out.below _)
  have h3 := h2.trans (HB3.out.mono h2.size)
  exact ⟨rfl, h3.trans (HB4.out.mono h3.size)⟩

/-- A trace as it is handed over. -/
def traceV (t : Api.TTrace) (a3 a4 a7 a8 a11 a12 : Option Addr) (c3 c4 c7 c8 c11 c12 : Nat) : Value :=
  .agg #[.int .i64 t.Fn, .int .i64 t.At, .int .i64 t.Loop, .slice a3 t.Ins.length c3, .slice a4 t.Exits.length c4, .int .i64 t.Turn.At, .int .i64 t.Turn.Steps, .slice a7 t.Turn.Sets.length c7, .slice a8 t.Turn.Makes.length c8, .int .i64 t.Back.At, .int .i64 t.Back.Steps, .slice a11 t.Back.Sets.length c11, .slice a12 t.Back.Makes.length c12]

theorem arr_ins_op {S : Nat → Prop} {w : World} {a : Option Addr} {xs : List Api.TIns} (h : Arr S w a xs) {k : Nat} {x : Api.TIns} (hk : xs[k]? = some x) : ∃ (b off : Nat), a = some ⟨b, off, none⟩ ∧ S b ∧ w.cell? ⟨b, off + k * 8, none⟩ = some (.int .i64 x.Op) := by
  obtain ⟨b, off, ha, hb, h0, _⟩ := api_TIns_elem h hk
  exact ⟨b, off, ha, hb, h0⟩
end Go.Proofs.YtjlnaiiajlahgaaDoor.ir
