/- SnapFlats: the writer: put, and what is put of the small things: walked. -/
import Derived.Test.YtimlhjjdaggiiaaFlatPlain
import Derived.Test.YtimlhjjdaggiiaaMoved
import Derived.Lib.AppendZerosOnto
set_option linter.unusedVariables false
set_option linter.unusedSimpArgs false
namespace Go.Proofs.Ytimlhjjdaggiiaa.flat
open Go.Bk Go.RowKit

/-- At block wb lies a writer that has put these numbers, in the row v. -/
structure Wr (w : World) (wb : Nat) (v : Value) (xs : List Int) : Prop where
  blk : Blk w wb 126 [v]
  own : Own (fun _ => False) w (wb + 1) 3 v xs
def Puts (wb : Nat) (v : Value) (xs ys : List Int) (w : World) (e : Ending) (w' : World) : Prop := e = .returned (.tuple #[]) ∧ ∃ v', Wr w' wb v' (xs ++ ys) ∧ Moved wb v w v' w'
theorem Wr.lt {w : World} {wb : Nat} {v : Value} {xs : List Int} (h : Wr w wb v xs) : wb < w.heap.size := h.blk.lt
theorem Wr.below {w w' : World} {wb : Nat} {v : Value} {xs : List Int} (h : Wr w wb v xs) (hb : Below w.heap.size w w') : Wr w' wb v xs :=
  ⟨h.blk.keep (hb.block wb h.lt), h.own.below hb (fun _ h => h.elim)⟩
theorem Wr.alloc {w : World} {wb : Nat} {v : Value} {xs : List Int} (h : Wr w wb v xs) (o : Obj) : Wr (w.alloc o) wb v xs := h.below ((Below.refl _ _).alloc (Nat.le_refl _) o)
theorem Wr.ne {w : World} {wb : Nat} {v : Value} {xs : List Int} (h : Wr w wb v xs) : v.ownBlock ≠ some w.heap.size := fun he => by have := (h.own.lt _ he).2; omega
theorem Wr.low {w : World} {wb b : Nat} {v : Value} {xs : List Int} (h : Wr w wb v xs) (hb : b < wb) : b < w.heap.size ∧ b ≠ wb ∧ v.ownBlock ≠ some b :=
  ⟨Nat.lt_trans hb h.lt, by omega, fun he => by have := (h.own.lt _ he).1; omega⟩

set_option maxRecDepth 100000 in
theorem put_any {w : World} {wb c n : Nat} {a : Addr} {v : Value} {xs ys : List Int} (hw : Wr w wb v xs) (hbox : ∀ (j : Nat) (u : Value), (intsV ys)[j]? = some u → w.cell? (a.add j) = some u) (hy : ∀ y ∈ ys, I64 y) (hn : ys.length = n) (h0 : 0 < n) (hl : xs.length + n ≤ 1000000000) :
    Calls Try.prog 66 #[.pointer (some ⟨wb, 0, none⟩), .slice (some a) n c] w (Puts wb v xs ys w) := by
  have hlt := hw.lt
  have q1 := hw.blk.cell0
  obtain ⟨v', w', hrun, ho, hg, hst⟩ := run_append_ints (P := Try.prog) (ty := 22) (c := c) Try.underlying22 Try.info3 rfl hw.own hy hn h0 hbox hl (by omega) (by omega)
  have hk := hw.blk.keep (w' := w') (hg.block wb hlt (fun he => by have := (hw.own.lt wb he.symm).1; omega))
  have q2 := hk.cell0
  have q3 := hk.frozen 0
  obtain ⟨a', c', hv, -⟩ := ho.arr
  rw [List.length_append, hn] at hv
  have HOV := Lib.hid (fun k (hk : v.ownBlock = some k) => hw.own.lt k hk)
  have HO := Lib.hid ho; have HG := Lib.hid hg; have HS := Lib.hid hst; have HK := Lib.hid hk
  clear ho hg hst hk hbox hy hw
  subst hv
  go_enter Try.func66, Try.ntmps66
  go_wp2_with (at_builtin; refine Lib.wpList_append_run _ rfl _ _ _ _ rfl _ _ rfl rfl _ w' (by with_unfolding_all exact hrun) ?_)
  refine bodyPost_end (results_none rfl _ _ _) rfl ?_
  refine ⟨rfl, _, ⟨HK.out.set 0 _, HO.out.keep (row := some wb) (grownBy_setCell (World.grownBy.refl _ _) 0 _) ?_ (fun _ h => h.elim)⟩, HG.out.os, HG.out.tape, HG.out.output, by rw [size_setCell]; exact HG.out.size, fun k hk hne hv => ?_, HS.out⟩
  · cases hv : (Value.slice a' (xs.length + n) c').ownBlock with
    | none => exact .inl rfl
    | some k => right; intro e; have := (HO.out.lt k hv).1; have := Option.some.inj e; omega
  · rw [blk_setCell_other _ _ _ hne]
    exact HG.out.block k hk (fun he => hv he.symm)
theorem put_new {w0 : World} {wb n g : Nat} {v : Value} {xs ys : List Int} {cs : List Value} (hw : Wr w0 wb v xs) (hg : g = w0.heap.size) (hcs : cs = intsV ys) (hi : ∀ y ∈ ys, I64 y) (hn : ys.length = n) (h0 : 0 < n) (hl : xs.length + n ≤ 1000000000) :
    Calls Try.prog 66 #[.pointer (some ⟨wb, 0, none⟩), .slice (some ⟨g, 0, none⟩) n n] (w0.alloc (.cells cs.toArray 3)) (Puts wb v xs ys w0) := by
  subst hg hcs
  refine (put_any (hw.alloc _) (fun j u hu => by rw [Addr.add_lit, Nat.zero_add]; exact (blk_new w0 _ _).cell hu) hi hn h0 hl).mono ?_
  rintro e w' ⟨he, v', h1, h2⟩
  exact ⟨he, v', h1, (Moved.alloc wb v w0 _).trans h2⟩

set_option maxRecDepth 100000 in
theorem val_any {w : World} {wb : Nat} {v : Value} {xs : List Int} {x : Api.Val} (hw : Wr w wb v xs) (h1 : I64 x.Kind) (h2 : I64 x.N) (hl : xs.length + 2 ≤ 1000000000) :
    Calls Try.prog 74 #[.pointer (some ⟨wb, 0, none⟩), .agg #[.int .i64 x.Kind, .int .i64 x.N]] w (Puts wb v xs (fVal x) w) := by
  have HW := Lib.hid hw
  go_enter Try.func74, Try.ntmps74
  go_wp2_with fail
  refine (put_new (n := 2) (ys := fVal x) (cs := [.int .i64 x.Kind, .int .i64 x.N]) (HW.out.alloc (.cells #[.int .i64 x.Kind, .int .i64 x.N] 48)) (by simp) rfl (by simp [fVal]; exact ⟨h1, h2⟩) rfl (by omega) hl).mono ?_
  rintro e w1 ⟨rfl, v1, hw1, hm1⟩
  have HW1 := Lib.hid hw1; have HM1 := Lib.hid ((Moved.alloc wb v w _).trans hm1)
  clear hw1 hm1
  go_wp2_with fail
  refine bodyPost_end (results_none rfl _ _ _) rfl ?_
  exact ⟨rfl, _, HW1.out, HM1.out⟩
set_option maxRecDepth 100000 in
theorem try_any {w : World} {wb : Nat} {v : Value} {xs : List Int} {x : Api.Try} (hw : Wr w wb v xs) (h1 : I64 x.Reg) (h2 : I64 x.At) (hl : xs.length + 2 ≤ 1000000000) :
    Calls Try.prog 150 #[.pointer (some ⟨wb, 0, none⟩), .agg #[.int .i64 x.Reg, .int .i64 x.At]] w (Puts wb v xs (fTry x) w) := by
  have HW := Lib.hid hw
  go_enter Try.func150, Try.ntmps150
  go_wp2_with fail
  refine (put_new (n := 2) (ys := fTry x) (cs := [.int .i64 x.Reg, .int .i64 x.At]) (HW.out.alloc (.cells #[.int .i64 x.Reg, .int .i64 x.At] 212)) (by simp) rfl (by simp [fTry]; exact ⟨h1, h2⟩) rfl (by omega) hl).mono ?_
  rintro e w1 ⟨rfl, v1, hw1, hm1⟩
  have HW1 := Lib.hid hw1; have HM1 := Lib.hid ((Moved.alloc wb v w _).trans hm1)
  clear hw1 hm1
  go_wp2_with fail
  refine bodyPost_end (results_none rfl _ _ _) rfl ?_
  exact ⟨rfl, _, HW1.out, HM1.out⟩
set_option maxRecDepth 100000 in
theorem shape_any {w : World} {wb vb : Nat} {v : Value} {xs : List Int} {x : Api.Shape} (hw : Wr w wb v xs) (hc : w.cell? ⟨vb, 0, none⟩ = some (.pointer (some ⟨wb, 0, none⟩))) (hvb : vb < w.heap.size) (h1 : I64 x.Up) (h2 : I64 x.Name) (hl : xs.length + 2 ≤ 1000000000) :
    Calls Try.prog 65 #[.agg #[.int .i64 x.Up, .int .i64 x.Name], .pointer (some ⟨vb, 0, none⟩)] w (Puts wb v xs (fShape x) w) := by
  have HW := Lib.hid hw
  have q1 : (w.alloc (.cells #[.int .i64 x.Up, .int .i64 x.Name] 134)).cell? ⟨vb, 0, none⟩ = some (.pointer (some ⟨wb, 0, none⟩)) := (((Below.refl _ _).alloc (Nat.le_refl _) _).cell (p := ⟨vb, 0, none⟩) hvb).trans hc
  go_enter Try.func65, Try.ntmps65
  go_wp2_with fail
  refine (put_new (n := 2) (ys := fShape x) (cs := [.int .i64 x.Up, .int .i64 x.Name]) (HW.out.alloc (.cells #[.int .i64 x.Up, .int .i64 x.Name] 134)) (by simp) rfl (by simp [fShape]; exact ⟨h1, h2⟩) rfl (by omega) hl).mono ?_
  rintro e w1 ⟨rfl, v1, hw1, hm1⟩
  have HW1 := Lib.hid hw1; have HM1 := Lib.hid ((Moved.alloc wb v w _).trans hm1)
  clear hw1 hm1
  go_wp2_with fail
  refine bodyPost_end (results_none rfl _ _ _) rfl ?_
  exact ⟨rfl, _, HW1.out, HM1.out⟩
set_option maxRecDepth 100000 in
theorem end_any {w : World} {wb : Nat} {v : Value} {xs : List Int} {x : Api.End} (hw : Wr w wb v xs) (h0 : I64 x.Cell) (h1 : I64 x.Fn.Kind) (h2 : I64 x.Fn.N) (hl : xs.length + 3 ≤ 1000000000) :
    Calls Try.prog 72 #[.pointer (some ⟨wb, 0, none⟩), .agg #[.int .i64 x.Cell, .int .i64 x.Fn.Kind, .int .i64 x.Fn.N]] w (Puts wb v xs (fEnd x) w) := by
  have HW := Lib.hid hw
  have hbx := blk_new w [.int .i64 x.Cell, .int .i64 x.Fn.Kind, .int .i64 x.Fn.N] 145
  have hne := hw.ne
  have hlt := hw.lt
  have HBX := Lib.hid hbx
  clear hw hbx
  go_enter Try.func72, Try.ntmps72
  go_wp2_with fail
  refine (put_new (n := 1) (ys := [x.Cell]) (cs := [.int .i64 x.Cell]) (HW.out.alloc (.cells #[.int .i64 x.Cell, .int .i64 x.Fn.Kind, .int .i64 x.Fn.N] 145)) (by simp) rfl (by simpa using h0) rfl (by omega) (by omega)).mono ?_
  rintro e w1 ⟨rfl, v1, hw1, hm1⟩
  have hb1 := hm1.blk HBX.out (by omega) hne
  have q1 := hb1.cell (j := 1) rfl
  have q2 := hb1.cell (j := 2) rfl
  have HW1 := Lib.hid hw1; have HM1 := Lib.hid ((Moved.alloc wb v w _).trans hm1)
  clear hw1 hm1 hb1
  go_wp2_with fail
  refine (val_any (x := x.Fn) HW1.out h1 h2 (by simp; omega)).mono ?_
  rintro e w2 ⟨rfl, v2, hw2, hm2⟩
  have HW2 := Lib.hid hw2; have HM2 := Lib.hid (HM1.out.trans hm2)
  clear hw2 hm2
  go_wp2_with fail
  refine bodyPost_end (results_none rfl _ _ _) rfl ?_
  exact ⟨rfl, _, by (have := HW2.out; rw [List.append_assoc] at this; exact this), HM2.out⟩
set_option maxRecDepth 100000 in
/-- A byte of a text. -/
theorem byte_any {w : World} {wb vb : Nat} {v : Value} {xs : List Int} {b : UInt8} (hw : Wr w wb v xs) (hc : w.cell? ⟨vb, 0, none⟩ = some (.pointer (some ⟨wb, 0, none⟩))) (hl : xs.length + 1 ≤ 1000000000) :
    Calls Try.prog 129 #[.int .u8 b.toNat, .pointer (some ⟨vb, 0, none⟩)] w (Puts wb v xs (fByte b) w) := by
  have HW := Lib.hid hw
  have hb := b.toNat_lt
  go_enter Try.func129, Try.ntmps129
  go_wp2_with fail
  refine (put_new (n := 1) (ys := fByte b) (cs := [.int .i64 b.toNat]) HW.out rfl rfl (by simp [fByte]; unfold I64; omega) rfl (by omega) hl).mono ?_
  rintro e w1 ⟨rfl, v1, hw1, hm1⟩
  have HW1 := Lib.hid hw1; have HM1 := Lib.hid hm1
  clear hw1 hm1
  go_wp2_with fail
  refine bodyPost_end (results_none rfl _ _ _) rfl ?_
  exact ⟨rfl, _, HW1.out, HM1.out⟩
end Go.Proofs.Ytimlhjjdaggiiaa.flat
