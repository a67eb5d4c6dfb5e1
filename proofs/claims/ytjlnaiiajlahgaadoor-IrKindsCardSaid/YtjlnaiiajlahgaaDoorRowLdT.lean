/- Traces, programs, exits, instructions loaded whole. -/
import Derived.Test.YtjlnaiiajlahgaaDoorRowLd
import Derived.Test.YtjlnaiiajlahgaaDoorTy
set_option linter.unusedVariables false
set_option linter.unusedSimpArgs false
namespace Go.Proofs.YtjlnaiiajlahgaaDoor
open Go.Bk Go.RowKit
section
variable {ops : Array Oper} {C : World → Prop} {Q : Exit → Act → World → Prop} {a : Act} {o : Oper} {w : World} {rest : List Oper} {K : Act → Prop} {x : Operand} {g : Nat} {X : Array Value}
theorem infoT (h : X.size = 13) : (Tryd.prog.info? 29).map (·.size) = some X.size := by
  rw [h]; kernel_rfl
theorem ldT (hw : Region.wanted o (yielded ops a.tmps) = true) (ho : o.op = .load 29 x) (hx : a.eval x = .pointer (some ⟨g, 0, none⟩)) (hg : Row w g 29 X) (hs : X.size = 13)
    (h : wpList Tryd.prog ops Q rest (a.put o.dst (.agg X)) w) : wpList Tryd.prog ops Q (o :: rest) a w :=
  wp_load_rowX hw 29 x ho g hx _ X hg _ Tryd.underlying29 rfl (infoT hs) h
theorem qldT (ho : o.op = .load 29 x) (hx : a.eval x = .pointer (some ⟨g, 0, none⟩)) (hg : ∀ w, C w → Row w g 29 X) (hs : X.size = 13)
    (h : K (a.put o.dst (.agg X))) : o.quiet Tryd.prog a C K :=
  quiet_load_row 29 x ho g hx _ X hg _ Tryd.underlying29 rfl (infoT hs) h
theorem infoP (h : X.size = 3) : (Tryd.prog.info? 52).map (·.size) = some X.size := by
  rw [h]; kernel_rfl
theorem ldP (hw : Region.wanted o (yielded ops a.tmps) = true) (ho : o.op = .load 52 x) (hx : a.eval x = .pointer (some ⟨g, 0, none⟩)) (hg : Row w g 52 X) (hs : X.size = 3)
    (h : wpList Tryd.prog ops Q rest (a.put o.dst (.agg X)) w) : wpList Tryd.prog ops Q (o :: rest) a w :=
  wp_load_rowX hw 52 x ho g hx _ X hg _ Tryd.underlying52 rfl (infoP hs) h
theorem qldP (ho : o.op = .load 52 x) (hx : a.eval x = .pointer (some ⟨g, 0, none⟩)) (hg : ∀ w, C w → Row w g 52 X) (hs : X.size = 3)
    (h : K (a.put o.dst (.agg X))) : o.quiet Tryd.prog a C K :=
  quiet_load_row 52 x ho g hx _ X hg _ Tryd.underlying52 rfl (infoP hs) h
theorem infoE (h : X.size = 4) : (Tryd.prog.info? 27).map (·.size) = some X.size := by
  rw [h]; kernel_rfl
theorem ldE (hw : Region.wanted o (yielded ops a.tmps) = true) (ho : o.op = .load 27 x) (hx : a.eval x = .pointer (some ⟨g, 0, none⟩)) (hg : Row w g 27 X) (hs : X.size = 4)
    (h : wpList Tryd.prog ops Q rest (a.put o.dst (.agg X)) w) : wpList Tryd.prog ops Q (o :: rest) a w :=
  wp_load_rowX hw 27 x ho g hx _ X hg _ Tryd.underlying27 rfl (infoE hs) h
theorem qldE (ho : o.op = .load 27 x) (hx : a.eval x = .pointer (some ⟨g, 0, none⟩)) (hg : ∀ w, C w → Row w g 27 X) (hs : X.size = 4)
    (h : K (a.put o.dst (.agg X))) : o.quiet Tryd.prog a C K :=
  quiet_load_row 27 x ho g hx _ X hg _ Tryd.underlying27 rfl (infoE hs) h
theorem infoI (h : X.size = 8) : (Tryd.prog.info? 66).map (·.size) = some X.size := by
  rw [h]; kernel_rfl
theorem ldI (hw : Region.wanted o (yielded ops a.tmps) = true) (ho : o.op = .load 66 x) (hx : a.eval x = .pointer (some ⟨g, 0, none⟩)) (hg : Row w g 66 X) (hs : X.size = 8)
    (h : wpList Tryd.prog ops Q rest (a.put o.dst (.agg X)) w) : wpList Tryd.prog ops Q (o :: rest) a w :=
  wp_load_rowX hw 66 x ho g hx _ X hg _ Tryd.underlying66 rfl (infoI hs) h
theorem qldI (ho : o.op = .load 66 x) (hx : a.eval x = .pointer (some ⟨g, 0, none⟩)) (hg : ∀ w, C w → Row w g 66 X) (hs : X.size = 8)
    (h : K (a.put o.dst (.agg X))) : o.quiet Tryd.prog a C K :=
  quiet_load_row 66 x ho g hx _ X hg _ Tryd.underlying66 rfl (infoI hs) h
end
end Go.Proofs.YtjlnaiiajlahgaaDoor
