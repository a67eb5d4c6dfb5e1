/- MADE BY PROGRAM (gents.py): append at each slice type that this seat knows, one element at a time. -/
import Derived.Test.YtfdpannanpipdaaTy
import Derived.Test.YtfdpannanpipdaaApart
set_option linter.unusedVariables false
set_option linter.unusedSimpArgs false
namespace Go.Proofs.Ytfdpannanpipdaa
open Go.Bk Go.RowKit
variable {ops : Array Oper} {Q : Exit → Act → World → Prop} {a : Act} {w : World} {rest : List Oper} {o : Oper}

theorem Try.infoRep22 : (Try.prog.info? 41).map (fun i => (i.zero, i.size, i.bytes)) = some (some (.agg #[.int .i64 0, .int .i64 0, .int .i64 0, .int .i64 0, .int .i64 0, .int .i64 0, .int .i64 0, .int .i64 0, .int .i64 0, .int .i64 0, .int .i64 0, .int .i64 0]), Rep.sz Api.Event, 96) := Try.info41
theorem Try.wp_app22 {S : Nat → Prop} {s x : Operand} (hgd : o.guard = none) (ho : o.op = .call { callee := .builtin .append, args := #[s, x], argTypes := #[22, 22] })
    {B : Nat} {v : Value} {xs : List Api.Event} {y : Api.Event} {cs : List Value} {w0 : World} {e' : TypeId} (hs : a.eval s = v) {g : Nat} (hx : a.eval x = .slice (some ⟨g, 0, none⟩) 1 1) (hw : w = w0.alloc (.cells cs.toArray e')) (hg : g = w0.heap.size) (hown : Own S w0 B 41 v xs) (hy : Rep.cells S w0 cs y)
    (hS : ∀ b, S b → b < w0.heap.size ∧ v.ownBlock ≠ some b) (h63 : xs.length + 1 ≤ 1000000000) (hbase : B ≤ w0.heap.size)
    (h : ∀ v' w', Own S w' B 41 v' (xs ++ [y]) → w0.grownBy w' v.ownBlock → wpList Try.prog ops Q rest (a.put o.dst v') w') : wpList Try.prog ops Q (o :: rest) a w :=
  wp_append1' hgd ho Try.underlying22 Try.infoRep22 (by decide) (by decide) hs hx hw hg hown hy hS (by unfold maxLen; omega) (by omega) hbase h
theorem Try.wp_appd22 {S : Nat → Prop} {s x : Operand} (hgd : o.guard = none) (ho : o.op = .call { callee := .builtin .append, args := #[s, x], argTypes := #[22, 22] })
    {B : Nat} {v : Value} {xs : List Api.Event} {y : Api.Event} {cs : List Value} {w0 : World} {e' : TypeId} (hs : a.eval s = v) {g : Nat} (hx : a.eval x = .slice (some ⟨g, 0, none⟩) 1 1) (hw : w = w0.alloc (.cells cs.toArray e')) (hg : g = w0.heap.size) (hown : Own S w0 B 41 v xs) (hy : Rep.cells S w0 cs y)
    (hS : ∀ b, S b → b < w0.heap.size ∧ v.ownBlock ≠ some b) (h63 : xs.length + 1 ≤ 1000000000) (hbase : B ≤ w0.heap.size)
    (h : ∀ v' w', Own S w' B 41 v' (xs ++ [y]) → w0.grownBy w' v.ownBlock → Stay w0 v v' → wpList Try.prog ops Q rest (a.put o.dst v') w') : wpList Try.prog ops Q (o :: rest) a w :=
  wp_append1s hgd ho Try.underlying22 Try.infoRep22 (by decide) (by decide) hs hx hw hg hown hy hS (by unfold maxLen; omega) (by omega) hbase h
theorem Try.flat22 {S S2 : Nat → Prop} {w : World} (cs : List Value) (y : Api.Event) (h : Rep.cells S2 w cs y) : Rep.cells S w cs y := h
theorem Try.wp_apps22 {S S2 : Nat → Prop} {s x : Operand} (hgd : o.guard = none) (ho : o.op = .call { callee := .builtin .append, args := #[s, x], argTypes := #[22, 22] })
    {B : Nat} {v : Value} {xs ys : List Api.Event} {ao : Option Addr} {n cap : Nat} (hs : a.eval s = v) (hx : a.eval x = .slice ao n cap) (hn : ys.length = n) (hown : Own S w B 41 v xs) (hys : Arr S2 w ao ys) (hcc : ∀ (cs : List Value) (y : Api.Event), Rep.cells S2 w cs y → Rep.cells S w cs y) (hnil : ao = none → cap = 0)
    (hS : ∀ b, S b → b < w.heap.size ∧ v.ownBlock ≠ some b) (h63 : xs.length + n ≤ 1000000000) (hbase : B ≤ w.heap.size)
    (h : ∀ v' w', Own S w' B 41 v' (xs ++ ys) → w.grownBy w' v.ownBlock → wpList Try.prog ops Q rest (a.put o.dst v') w') : wpList Try.prog ops Q (o :: rest) a w := by
  subst hn
  exact wp_append hgd ho Try.underlying22 Try.infoRep22 (by decide) (by decide) hs hx hown hys hcc hnil hS (by unfold maxLen; omega) (by omega) hbase h
theorem Try.infoRep30 : (Try.prog.info? 3).map (fun i => (i.zero, i.size, i.bytes)) = some (some (.int .i64 0), Rep.sz Int, 8) := Try.info3
theorem Try.wp_app30 {S : Nat → Prop} {s x : Operand} (hgd : o.guard = none) (ho : o.op = .call { callee := .builtin .append, args := #[s, x], argTypes := #[30, 30] })
    {B : Nat} {v : Value} {xs : List Int} {y : Int} {cs : List Value} {w0 : World} {e' : TypeId} (hs : a.eval s = v) {g : Nat} (hx : a.eval x = .slice (some ⟨g, 0, none⟩) 1 1) (hw : w = w0.alloc (.cells cs.toArray e')) (hg : g = w0.heap.size) (hown : Own S w0 B 3 v xs) (hy : Rep.cells S w0 cs y)
    (hS : ∀ b, S b → b < w0.heap.size ∧ v.ownBlock ≠ some b) (h63 : xs.length + 1 ≤ 1000000000) (hbase : B ≤ w0.heap.size)
    (h : ∀ v' w', Own S w' B 3 v' (xs ++ [y]) → w0.grownBy w' v.ownBlock → wpList Try.prog ops Q rest (a.put o.dst v') w') : wpList Try.prog ops Q (o :: rest) a w :=
  wp_append1' hgd ho Try.underlying30 Try.infoRep30 (by decide) (by decide) hs hx hw hg hown hy hS (by unfold maxLen; omega) (by omega) hbase h
theorem Try.wp_appd30 {S : Nat → Prop} {s x : Operand} (hgd : o.guard = none) (ho : o.op = .call { callee := .builtin .append, args := #[s, x], argTypes := #[30, 30] })
    {B : Nat} {v : Value} {xs : List Int} {y : Int} {cs : List Value} {w0 : World} {e' : TypeId} (hs : a.eval s = v) {g : Nat} (hx : a.eval x = .slice (some ⟨g, 0, none⟩) 1 1) (hw : w = w0.alloc (.cells cs.toArray e')) (hg : g = w0.heap.size) (hown : Own S w0 B 3 v xs) (hy : Rep.cells S w0 cs y)
    (hS : ∀ b, S b → b < w0.heap.size ∧ v.ownBlock ≠ some b) (h63 : xs.length + 1 ≤ 1000000000) (hbase : B ≤ w0.heap.size)
    (h : ∀ v' w', Own S w' B 3 v' (xs ++ [y]) → w0.grownBy w' v.ownBlock → Stay w0 v v' → wpList Try.prog ops Q rest (a.put o.dst v') w') : wpList Try.prog ops Q (o :: rest) a w :=
  wp_append1s hgd ho Try.underlying30 Try.infoRep30 (by decide) (by decide) hs hx hw hg hown hy hS (by unfold maxLen; omega) (by omega) hbase h
theorem Try.flat30 {S S2 : Nat → Prop} {w : World} (cs : List Value) (y : Int) (h : Rep.cells S2 w cs y) : Rep.cells S w cs y := h
theorem Try.wp_apps30 {S S2 : Nat → Prop} {s x : Operand} (hgd : o.guard = none) (ho : o.op = .call { callee := .builtin .append, args := #[s, x], argTypes := #[30, 30] })
    {B : Nat} {v : Value} {xs ys : List Int} {ao : Option Addr} {n cap : Nat} (hs : a.eval s = v) (hx : a.eval x = .slice ao n cap) (hn : ys.length = n) (hown : Own S w B 3 v xs) (hys : Arr S2 w ao ys) (hcc : ∀ (cs : List Value) (y : Int), Rep.cells S2 w cs y → Rep.cells S w cs y) (hnil : ao = none → cap = 0)
    (hS : ∀ b, S b → b < w.heap.size ∧ v.ownBlock ≠ some b) (h63 : xs.length + n ≤ 1000000000) (hbase : B ≤ w.heap.size)
    (h : ∀ v' w', Own S w' B 3 v' (xs ++ ys) → w.grownBy w' v.ownBlock → wpList Try.prog ops Q rest (a.put o.dst v') w') : wpList Try.prog ops Q (o :: rest) a w := by
  subst hn
  exact wp_append hgd ho Try.underlying30 Try.infoRep30 (by decide) (by decide) hs hx hown hys hcc hnil hS (by unfold maxLen; omega) (by omega) hbase h
theorem Try.infoRep44 : (Try.prog.info? 5).map (fun i => (i.zero, i.size, i.bytes)) = some (some (.int .u8 0), Rep.sz UInt8, 1) := Try.info5
theorem Try.wp_app44 {S : Nat → Prop} {s x : Operand} (hgd : o.guard = none) (ho : o.op = .call { callee := .builtin .append, args := #[s, x], argTypes := #[44, 44] })
    {B : Nat} {v : Value} {xs : List UInt8} {y : UInt8} {cs : List Value} {w0 : World} {e' : TypeId} (hs : a.eval s = v) {g : Nat} (hx : a.eval x = .slice (some ⟨g, 0, none⟩) 1 1) (hw : w = w0.alloc (.cells cs.toArray e')) (hg : g = w0.heap.size) (hown : Own S w0 B 5 v xs) (hy : Rep.cells S w0 cs y)
    (hS : ∀ b, S b → b < w0.heap.size ∧ v.ownBlock ≠ some b) (h63 : xs.length + 1 ≤ 1000000000) (hbase : B ≤ w0.heap.size)
    (h : ∀ v' w', Own S w' B 5 v' (xs ++ [y]) → w0.grownBy w' v.ownBlock → wpList Try.prog ops Q rest (a.put o.dst v') w') : wpList Try.prog ops Q (o :: rest) a w :=
  wp_append1' hgd ho Try.underlying44 Try.infoRep44 (by decide) (by decide) hs hx hw hg hown hy hS (by unfold maxLen; omega) (by omega) hbase h
theorem Try.wp_appd44 {S : Nat → Prop} {s x : Operand} (hgd : o.guard = none) (ho : o.op = .call { callee := .builtin .append, args := #[s, x], argTypes := #[44, 44] })
    {B : Nat} {v : Value} {xs : List UInt8} {y : UInt8} {cs : List Value} {w0 : World} {e' : TypeId} (hs : a.eval s = v) {g : Nat} (hx : a.eval x = .slice (some ⟨g, 0, none⟩) 1 1) (hw : w = w0.alloc (.cells cs.toArray e')) (hg : g = w0.heap.size) (hown : Own S w0 B 5 v xs) (hy : Rep.cells S w0 cs y)
    (hS : ∀ b, S b → b < w0.heap.size ∧ v.ownBlock ≠ some b) (h63 : xs.length + 1 ≤ 1000000000) (hbase : B ≤ w0.heap.size)
    (h : ∀ v' w', Own S w' B 5 v' (xs ++ [y]) → w0.grownBy w' v.ownBlock → Stay w0 v v' → wpList Try.prog ops Q rest (a.put o.dst v') w') : wpList Try.prog ops Q (o :: rest) a w :=
  wp_append1s hgd ho Try.underlying44 Try.infoRep44 (by decide) (by decide) hs hx hw hg hown hy hS (by unfold maxLen; omega) (by omega) hbase h
theorem Try.flat44 {S S2 : Nat → Prop} {w : World} (cs : List Value) (y : UInt8) (h : Rep.cells S2 w cs y) : Rep.cells S w cs y := h
theorem Try.wp_apps44 {S S2 : Nat → Prop} {s x : Operand} (hgd : o.guard = none) (ho : o.op = .call { callee := .builtin .append, args := #[s, x], argTypes := #[44, 44] })
    {B : Nat} {v : Value} {xs ys : List UInt8} {ao : Option Addr} {n cap : Nat} (hs : a.eval s = v) (hx : a.eval x = .slice ao n cap) (hn : ys.length = n) (hown : Own S w B 5 v xs) (hys : Arr S2 w ao ys) (hcc : ∀ (cs : List Value) (y : UInt8), Rep.cells S2 w cs y → Rep.cells S w cs y) (hnil : ao = none → cap = 0)
    (hS : ∀ b, S b → b < w.heap.size ∧ v.ownBlock ≠ some b) (h63 : xs.length + n ≤ 1000000000) (hbase : B ≤ w.heap.size)
    (h : ∀ v' w', Own S w' B 5 v' (xs ++ ys) → w.grownBy w' v.ownBlock → wpList Try.prog ops Q rest (a.put o.dst v') w') : wpList Try.prog ops Q (o :: rest) a w := by
  subst hn
  exact wp_append hgd ho Try.underlying44 Try.infoRep44 (by decide) (by decide) hs hx hown hys hcc hnil hS (by unfold maxLen; omega) (by omega) hbase h
theorem Try.infoRep45 : (Try.prog.info? 24).map (fun i => (i.zero, i.size, i.bytes)) = some (some (.agg #[.int .i64 0, .int .i64 0]), Rep.sz Api.Val, 16) := Try.info24
theorem Try.wp_app45 {S : Nat → Prop} {s x : Operand} (hgd : o.guard = none) (ho : o.op = .call { callee := .builtin .append, args := #[s, x], argTypes := #[45, 45] })
    {B : Nat} {v : Value} {xs : List Api.Val} {y : Api.Val} {cs : List Value} {w0 : World} {e' : TypeId} (hs : a.eval s = v) {g : Nat} (hx : a.eval x = .slice (some ⟨g, 0, none⟩) 1 1) (hw : w = w0.alloc (.cells cs.toArray e')) (hg : g = w0.heap.size) (hown : Own S w0 B 24 v xs) (hy : Rep.cells S w0 cs y)
    (hS : ∀ b, S b → b < w0.heap.size ∧ v.ownBlock ≠ some b) (h63 : xs.length + 1 ≤ 1000000000) (hbase : B ≤ w0.heap.size)
    (h : ∀ v' w', Own S w' B 24 v' (xs ++ [y]) → w0.grownBy w' v.ownBlock → wpList Try.prog ops Q rest (a.put o.dst v') w') : wpList Try.prog ops Q (o :: rest) a w :=
  wp_append1' hgd ho Try.underlying45 Try.infoRep45 (by decide) (by decide) hs hx hw hg hown hy hS (by unfold maxLen; omega) (by omega) hbase h
theorem Try.wp_appd45 {S : Nat → Prop} {s x : Operand} (hgd : o.guard = none) (ho : o.op = .call { callee := .builtin .append, args := #[s, x], argTypes := #[45, 45] })
    {B : Nat} {v : Value} {xs : List Api.Val} {y : Api.Val} {cs : List Value} {w0 : World} {e' : TypeId} (hs : a.eval s = v) {g : Nat} (hx : a.eval x = .slice (some ⟨g, 0, none⟩) 1 1) (hw : w = w0.alloc (.cells cs.toArray e')) (hg : g = w0.heap.size) (hown : Own S w0 B 24 v xs) (hy : Rep.cells S w0 cs y)
    (hS : ∀ b, S b → b < w0.heap.size ∧ v.ownBlock ≠ some b) (h63 : xs.length + 1 ≤ 1000000000) (hbase : B ≤ w0.heap.size)
    (h : ∀ v' w', Own S w' B 24 v' (xs ++ [y]) → w0.grownBy w' v.ownBlock → Stay w0 v v' → wpList Try.prog ops Q rest (a.put o.dst v') w') : wpList Try.prog ops Q (o :: rest) a w :=
  wp_append1s hgd ho Try.underlying45 Try.infoRep45 (by decide) (by decide) hs hx hw hg hown hy hS (by unfold maxLen; omega) (by omega) hbase h
theorem Try.flat45 {S S2 : Nat → Prop} {w : World} (cs : List Value) (y : Api.Val) (h : Rep.cells S2 w cs y) : Rep.cells S w cs y := h
theorem Try.wp_apps45 {S S2 : Nat → Prop} {s x : Operand} (hgd : o.guard = none) (ho : o.op = .call { callee := .builtin .append, args := #[s, x], argTypes := #[45, 45] })
    {B : Nat} {v : Value} {xs ys : List Api.Val} {ao : Option Addr} {n cap : Nat} (hs : a.eval s = v) (hx : a.eval x = .slice ao n cap) (hn : ys.length = n) (hown : Own S w B 24 v xs) (hys : Arr S2 w ao ys) (hcc : ∀ (cs : List Value) (y : Api.Val), Rep.cells S2 w cs y → Rep.cells S w cs y) (hnil : ao = none → cap = 0)
    (hS : ∀ b, S b → b < w.heap.size ∧ v.ownBlock ≠ some b) (h63 : xs.length + n ≤ 1000000000) (hbase : B ≤ w.heap.size)
    (h : ∀ v' w', Own S w' B 24 v' (xs ++ ys) → w.grownBy w' v.ownBlock → wpList Try.prog ops Q rest (a.put o.dst v') w') : wpList Try.prog ops Q (o :: rest) a w := by
  subst hn
  exact wp_append hgd ho Try.underlying45 Try.infoRep45 (by decide) (by decide) hs hx hown hys hcc hnil hS (by unfold maxLen; omega) (by omega) hbase h
theorem Try.infoRep60 : (Try.prog.info? 172).map (fun i => (i.zero, i.size, i.bytes)) = some (some (.agg #[.slice none 0 0]), Rep.sz Api.DDep, 24) := Try.info172
theorem Try.wp_app60 {S : Nat → Prop} {s x : Operand} (hgd : o.guard = none) (ho : o.op = .call { callee := .builtin .append, args := #[s, x], argTypes := #[60, 60] })
    {B : Nat} {v : Value} {xs : List Api.DDep} {y : Api.DDep} {cs : List Value} {w0 : World} {e' : TypeId} (hs : a.eval s = v) {g : Nat} (hx : a.eval x = .slice (some ⟨g, 0, none⟩) 1 1) (hw : w = w0.alloc (.cells cs.toArray e')) (hg : g = w0.heap.size) (hown : Own S w0 B 172 v xs) (hy : Rep.cells S w0 cs y)
    (hS : ∀ b, S b → b < w0.heap.size ∧ v.ownBlock ≠ some b) (h63 : xs.length + 1 ≤ 1000000000) (hbase : B ≤ w0.heap.size)
    (h : ∀ v' w', Own S w' B 172 v' (xs ++ [y]) → w0.grownBy w' v.ownBlock → wpList Try.prog ops Q rest (a.put o.dst v') w') : wpList Try.prog ops Q (o :: rest) a w :=
  wp_append1' hgd ho Try.underlying60 Try.infoRep60 (by decide) (by decide) hs hx hw hg hown hy hS (by unfold maxLen; omega) (by omega) hbase h
theorem Try.wp_appd60 {S : Nat → Prop} {s x : Operand} (hgd : o.guard = none) (ho : o.op = .call { callee := .builtin .append, args := #[s, x], argTypes := #[60, 60] })
    {B : Nat} {v : Value} {xs : List Api.DDep} {y : Api.DDep} {cs : List Value} {w0 : World} {e' : TypeId} (hs : a.eval s = v) {g : Nat} (hx : a.eval x = .slice (some ⟨g, 0, none⟩) 1 1) (hw : w = w0.alloc (.cells cs.toArray e')) (hg : g = w0.heap.size) (hown : Own S w0 B 172 v xs) (hy : Rep.cells S w0 cs y)
    (hS : ∀ b, S b → b < w0.heap.size ∧ v.ownBlock ≠ some b) (h63 : xs.length + 1 ≤ 1000000000) (hbase : B ≤ w0.heap.size)
    (h : ∀ v' w', Own S w' B 172 v' (xs ++ [y]) → w0.grownBy w' v.ownBlock → Stay w0 v v' → wpList Try.prog ops Q rest (a.put o.dst v') w') : wpList Try.prog ops Q (o :: rest) a w :=
  wp_append1s hgd ho Try.underlying60 Try.infoRep60 (by decide) (by decide) hs hx hw hg hown hy hS (by unfold maxLen; omega) (by omega) hbase h
theorem Try.wp_apps60 {S S2 : Nat → Prop} {s x : Operand} (hgd : o.guard = none) (ho : o.op = .call { callee := .builtin .append, args := #[s, x], argTypes := #[60, 60] })
    {B : Nat} {v : Value} {xs ys : List Api.DDep} {ao : Option Addr} {n cap : Nat} (hs : a.eval s = v) (hx : a.eval x = .slice ao n cap) (hn : ys.length = n) (hown : Own S w B 172 v xs) (hys : Arr S2 w ao ys) (hcc : ∀ (cs : List Value) (y : Api.DDep), Rep.cells S2 w cs y → Rep.cells S w cs y) (hnil : ao = none → cap = 0)
    (hS : ∀ b, S b → b < w.heap.size ∧ v.ownBlock ≠ some b) (h63 : xs.length + n ≤ 1000000000) (hbase : B ≤ w.heap.size)
    (h : ∀ v' w', Own S w' B 172 v' (xs ++ ys) → w.grownBy w' v.ownBlock → wpList Try.prog ops Q rest (a.put o.dst v') w') : wpList Try.prog ops Q (o :: rest) a w := by
  subst hn
  exact wp_append hgd ho Try.underlying60 Try.infoRep60 (by decide) (by decide) hs hx hown hys hcc hnil hS (by unfold maxLen; omega) (by omega) hbase h
theorem Try.infoRep61 : (Try.prog.info? 4).map (fun i => (i.zero, i.size, i.bytes)) = some (some (.bool false), Rep.sz Bool, 1) := Try.info4
theorem Try.wp_app61 {S : Nat → Prop} {s x : Operand} (hgd : o.guard = none) (ho : o.op = .call { callee := .builtin .append, args := #[s, x], argTypes := #[61, 61] })
    {B : Nat} {v : Value} {xs : List Bool} {y : Bool} {cs : List Value} {w0 : World} {e' : TypeId} (hs : a.eval s = v) {g : Nat} (hx : a.eval x = .slice (some ⟨g, 0, none⟩) 1 1) (hw : w = w0.alloc (.cells cs.toArray e')) (hg : g = w0.heap.size) (hown : Own S w0 B 4 v xs) (hy : Rep.cells S w0 cs y)
    (hS : ∀ b, S b → b < w0.heap.size ∧ v.ownBlock ≠ some b) (h63 : xs.length + 1 ≤ 1000000000) (hbase : B ≤ w0.heap.size)
    (h : ∀ v' w', Own S w' B 4 v' (xs ++ [y]) → w0.grownBy w' v.ownBlock → wpList Try.prog ops Q rest (a.put o.dst v') w') : wpList Try.prog ops Q (o :: rest) a w :=
  wp_append1' hgd ho Try.underlying61 Try.infoRep61 (by decide) (by decide) hs hx hw hg hown hy hS (by unfold maxLen; omega) (by omega) hbase h
theorem Try.wp_appd61 {S : Nat → Prop} {s x : Operand} (hgd : o.guard = none) (ho : o.op = .call { callee := .builtin .append, args := #[s, x], argTypes := #[61, 61] })
    {B : Nat} {v : Value} {xs : List Bool} {y : Bool} {cs : List Value} {w0 : World} {e' : TypeId} (hs : a.eval s = v) {g : Nat} (hx : a.eval x = .slice (some ⟨g, 0, none⟩) 1 1) (hw : w = w0.alloc (.cells cs.toArray e')) (hg : g = w0.heap.size) (hown : Own S w0 B 4 v xs) (hy : Rep.cells S w0 cs y)
    (hS : ∀ b, S b → b < w0.heap.size ∧ v.ownBlock ≠ some b) (h63 : xs.length + 1 ≤ 1000000000) (hbase : B ≤ w0.heap.size)
    (h : ∀ v' w', Own S w' B 4 v' (xs ++ [y]) → w0.grownBy w' v.ownBlock → Stay w0 v v' → wpList Try.prog ops Q rest (a.put o.dst v') w') : wpList Try.prog ops Q (o :: rest) a w :=
  wp_append1s hgd ho Try.underlying61 Try.infoRep61 (by decide) (by decide) hs hx hw hg hown hy hS (by unfold maxLen; omega) (by omega) hbase h
theorem Try.flat61 {S S2 : Nat → Prop} {w : World} (cs : List Value) (y : Bool) (h : Rep.cells S2 w cs y) : Rep.cells S w cs y := h
theorem Try.wp_apps61 {S S2 : Nat → Prop} {s x : Operand} (hgd : o.guard = none) (ho : o.op = .call { callee := .builtin .append, args := #[s, x], argTypes := #[61, 61] })
    {B : Nat} {v : Value} {xs ys : List Bool} {ao : Option Addr} {n cap : Nat} (hs : a.eval s = v) (hx : a.eval x = .slice ao n cap) (hn : ys.length = n) (hown : Own S w B 4 v xs) (hys : Arr S2 w ao ys) (hcc : ∀ (cs : List Value) (y : Bool), Rep.cells S2 w cs y → Rep.cells S w cs y) (hnil : ao = none → cap = 0)
    (hS : ∀ b, S b → b < w.heap.size ∧ v.ownBlock ≠ some b) (h63 : xs.length + n ≤ 1000000000) (hbase : B ≤ w.heap.size)
    (h : ∀ v' w', Own S w' B 4 v' (xs ++ ys) → w.grownBy w' v.ownBlock → wpList Try.prog ops Q rest (a.put o.dst v') w') : wpList Try.prog ops Q (o :: rest) a w := by
  subst hn
  exact wp_append hgd ho Try.underlying61 Try.infoRep61 (by decide) (by decide) hs hx hown hys hcc hnil hS (by unfold maxLen; omega) (by omega) hbase h
theorem Try.infoRep72 : (Try.prog.info? 30).map (fun i => (i.zero, i.size, i.bytes)) = some (some (.slice none 0 0), Rep.sz (List Int), 24) := Try.info30
theorem Try.wp_app72 {S : Nat → Prop} {s x : Operand} (hgd : o.guard = none) (ho : o.op = .call { callee := .builtin .append, args := #[s, x], argTypes := #[72, 72] })
    {B : Nat} {v : Value} {xs : List (List Int)} {y : (List Int)} {cs : List Value} {w0 : World} {e' : TypeId} (hs : a.eval s = v) {g : Nat} (hx : a.eval x = .slice (some ⟨g, 0, none⟩) 1 1) (hw : w = w0.alloc (.cells cs.toArray e')) (hg : g = w0.heap.size) (hown : Own S w0 B 30 v xs) (hy : Rep.cells S w0 cs y)
    (hS : ∀ b, S b → b < w0.heap.size ∧ v.ownBlock ≠ some b) (h63 : xs.length + 1 ≤ 1000000000) (hbase : B ≤ w0.heap.size)
    (h : ∀ v' w', Own S w' B 30 v' (xs ++ [y]) → w0.grownBy w' v.ownBlock → wpList Try.prog ops Q rest (a.put o.dst v') w') : wpList Try.prog ops Q (o :: rest) a w :=
  wp_append1' hgd ho Try.underlying72 Try.infoRep72 (by decide) (by decide) hs hx hw hg hown hy hS (by unfold maxLen; omega) (by omega) hbase h
theorem Try.wp_appd72 {S : Nat → Prop} {s x : Operand} (hgd : o.guard = none) (ho : o.op = .call { callee := .builtin .append, args := #[s, x], argTypes := #[72, 72] })
    {B : Nat} {v : Value} {xs : List (List Int)} {y : (List Int)} {cs : List Value} {w0 : World} {e' : TypeId} (hs : a.eval s = v) {g : Nat} (hx : a.eval x = .slice (some ⟨g, 0, none⟩) 1 1) (hw : w = w0.alloc (.cells cs.toArray e')) (hg : g = w0.heap.size) (hown : Own S w0 B 30 v xs) (hy : Rep.cells S w0 cs y)
    (hS : ∀ b, S b → b < w0.heap.size ∧ v.ownBlock ≠ some b) (h63 : xs.length + 1 ≤ 1000000000) (hbase : B ≤ w0.heap.size)
    (h : ∀ v' w', Own S w' B 30 v' (xs ++ [y]) → w0.grownBy w' v.ownBlock → Stay w0 v v' → wpList Try.prog ops Q rest (a.put o.dst v') w') : wpList Try.prog ops Q (o :: rest) a w :=
  wp_append1s hgd ho Try.underlying72 Try.infoRep72 (by decide) (by decide) hs hx hw hg hown hy hS (by unfold maxLen; omega) (by omega) hbase h
theorem Try.wp_apps72 {S S2 : Nat → Prop} {s x : Operand} (hgd : o.guard = none) (ho : o.op = .call { callee := .builtin .append, args := #[s, x], argTypes := #[72, 72] })
    {B : Nat} {v : Value} {xs ys : List (List Int)} {ao : Option Addr} {n cap : Nat} (hs : a.eval s = v) (hx : a.eval x = .slice ao n cap) (hn : ys.length = n) (hown : Own S w B 30 v xs) (hys : Arr S2 w ao ys) (hcc : ∀ (cs : List Value) (y : (List Int)), Rep.cells S2 w cs y → Rep.cells S w cs y) (hnil : ao = none → cap = 0)
    (hS : ∀ b, S b → b < w.heap.size ∧ v.ownBlock ≠ some b) (h63 : xs.length + n ≤ 1000000000) (hbase : B ≤ w.heap.size)
    (h : ∀ v' w', Own S w' B 30 v' (xs ++ ys) → w.grownBy w' v.ownBlock → wpList Try.prog ops Q rest (a.put o.dst v') w') : wpList Try.prog ops Q (o :: rest) a w := by
  subst hn
  exact wp_append hgd ho Try.underlying72 Try.infoRep72 (by decide) (by decide) hs hx hown hys hcc hnil hS (by unfold maxLen; omega) (by omega) hbase h
theorem Try.infoRep91 : (Try.prog.info? 61).map (fun i => (i.zero, i.size, i.bytes)) = some (some (.slice none 0 0), Rep.sz (List Bool), 24) := Try.info61
theorem Try.wp_app91 {S : Nat → Prop} {s x : Operand} (hgd : o.guard = none) (ho : o.op = .call { callee := .builtin .append, args := #[s, x], argTypes := #[91, 91] })
    {B : Nat} {v : Value} {xs : List (List Bool)} {y : (List Bool)} {cs : List Value} {w0 : World} {e' : TypeId} (hs : a.eval s = v) {g : Nat} (hx : a.eval x = .slice (some ⟨g, 0, none⟩) 1 1) (hw : w = w0.alloc (.cells cs.toArray e')) (hg : g = w0.heap.size) (hown : Own S w0 B 61 v xs) (hy : Rep.cells S w0 cs y)
    (hS : ∀ b, S b → b < w0.heap.size ∧ v.ownBlock ≠ some b) (h63 : xs.length + 1 ≤ 1000000000) (hbase : B ≤ w0.heap.size)
    (h : ∀ v' w', Own S w' B 61 v' (xs ++ [y]) → w0.grownBy w' v.ownBlock → wpList Try.prog ops Q rest (a.put o.dst v') w') : wpList Try.prog ops Q (o :: rest) a w :=
  wp_append1' hgd ho Try.underlying91 Try.infoRep91 (by decide) (by decide) hs hx hw hg hown hy hS (by unfold maxLen; omega) (by omega) hbase h
theorem Try.wp_appd91 {S : Nat → Prop} {s x : Operand} (hgd : o.guard = none) (ho : o.op = .call { callee := .builtin .append, args := #[s, x], argTypes := #[91, 91] })
    {B : Nat} {v : Value} {xs : List (List Bool)} {y : (List Bool)} {cs : List Value} {w0 : World} {e' : TypeId} (hs : a.eval s = v) {g : Nat} (hx : a.eval x = .slice (some ⟨g, 0, none⟩) 1 1) (hw : w = w0.alloc (.cells cs.toArray e')) (hg : g = w0.heap.size) (hown : Own S w0 B 61 v xs) (hy : Rep.cells S w0 cs y)
    (hS : ∀ b, S b → b < w0.heap.size ∧ v.ownBlock ≠ some b) (h63 : xs.length + 1 ≤ 1000000000) (hbase : B ≤ w0.heap.size)
    (h : ∀ v' w', Own S w' B 61 v' (xs ++ [y]) → w0.grownBy w' v.ownBlock → Stay w0 v v' → wpList Try.prog ops Q rest (a.put o.dst v') w') : wpList Try.prog ops Q (o :: rest) a w :=
  wp_append1s hgd ho Try.underlying91 Try.infoRep91 (by decide) (by decide) hs hx hw hg hown hy hS (by unfold maxLen; omega) (by omega) hbase h
theorem Try.wp_apps91 {S S2 : Nat → Prop} {s x : Operand} (hgd : o.guard = none) (ho : o.op = .call { callee := .builtin .append, args := #[s, x], argTypes := #[91, 91] })
    {B : Nat} {v : Value} {xs ys : List (List Bool)} {ao : Option Addr} {n cap : Nat} (hs : a.eval s = v) (hx : a.eval x = .slice ao n cap) (hn : ys.length = n) (hown : Own S w B 61 v xs) (hys : Arr S2 w ao ys) (hcc : ∀ (cs : List Value) (y : (List Bool)), Rep.cells S2 w cs y → Rep.cells S w cs y) (hnil : ao = none → cap = 0)
    (hS : ∀ b, S b → b < w.heap.size ∧ v.ownBlock ≠ some b) (h63 : xs.length + n ≤ 1000000000) (hbase : B ≤ w.heap.size)
    (h : ∀ v' w', Own S w' B 61 v' (xs ++ ys) → w.grownBy w' v.ownBlock → wpList Try.prog ops Q rest (a.put o.dst v') w') : wpList Try.prog ops Q (o :: rest) a w := by
  subst hn
  exact wp_append hgd ho Try.underlying91 Try.infoRep91 (by decide) (by decide) hs hx hown hys hcc hnil hS (by unfold maxLen; omega) (by omega) hbase h
theorem Try.infoRep101 : (Try.prog.info? 105).map (fun i => (i.zero, i.size, i.bytes)) = some (some (.agg #[.int .i64 0, .int .i64 0]), Rep.sz Api.DPair, 16) := Try.info105
theorem Try.wp_app101 {S : Nat → Prop} {s x : Operand} (hgd : o.guard = none) (ho : o.op = .call { callee := .builtin .append, args := #[s, x], argTypes := #[101, 101] })
    {B : Nat} {v : Value} {xs : List Api.DPair} {y : Api.DPair} {cs : List Value} {w0 : World} {e' : TypeId} (hs : a.eval s = v) {g : Nat} (hx : a.eval x = .slice (some ⟨g, 0, none⟩) 1 1) (hw : w = w0.alloc (.cells cs.toArray e')) (hg : g = w0.heap.size) (hown : Own S w0 B 105 v xs) (hy : Rep.cells S w0 cs y)
    (hS : ∀ b, S b → b < w0.heap.size ∧ v.ownBlock ≠ some b) (h63 : xs.length + 1 ≤ 1000000000) (hbase : B ≤ w0.heap.size)
    (h : ∀ v' w', Own S w' B 105 v' (xs ++ [y]) → w0.grownBy w' v.ownBlock → wpList Try.prog ops Q rest (a.put o.dst v') w') : wpList Try.prog ops Q (o :: rest) a w :=
  wp_append1' hgd ho Try.underlying101 Try.infoRep101 (by decide) (by decide) hs hx hw hg hown hy hS (by unfold maxLen; omega) (by omega) hbase h
theorem Try.wp_appd101 {S : Nat → Prop} {s x : Operand} (hgd : o.guard = none) (ho : o.op = .call { callee := .builtin .append, args := #[s, x], argTypes := #[101, 101] })
    {B : Nat} {v : Value} {xs : List Api.DPair} {y : Api.DPair} {cs : List Value} {w0 : World} {e' : TypeId} (hs : a.eval s = v) {g : Nat} (hx : a.eval x = .slice (some ⟨g, 0, none⟩) 1 1) (hw : w = w0.alloc (.cells cs.toArray e')) (hg : g = w0.heap.size) (hown : Own S w0 B 105 v xs) (hy : Rep.cells S w0 cs y)
    (hS : ∀ b, S b → b < w0.heap.size ∧ v.ownBlock ≠ some b) (h63 : xs.length + 1 ≤ 1000000000) (hbase : B ≤ w0.heap.size)
    (h : ∀ v' w', Own S w' B 105 v' (xs ++ [y]) → w0.grownBy w' v.ownBlock → Stay w0 v v' → wpList Try.prog ops Q rest (a.put o.dst v') w') : wpList Try.prog ops Q (o :: rest) a w :=
  wp_append1s hgd ho Try.underlying101 Try.infoRep101 (by decide) (by decide) hs hx hw hg hown hy hS (by unfold maxLen; omega) (by omega) hbase h
theorem Try.flat101 {S S2 : Nat → Prop} {w : World} (cs : List Value) (y : Api.DPair) (h : Rep.cells S2 w cs y) : Rep.cells S w cs y := h
theorem Try.wp_apps101 {S S2 : Nat → Prop} {s x : Operand} (hgd : o.guard = none) (ho : o.op = .call { callee := .builtin .append, args := #[s, x], argTypes := #[101, 101] })
    {B : Nat} {v : Value} {xs ys : List Api.DPair} {ao : Option Addr} {n cap : Nat} (hs : a.eval s = v) (hx : a.eval x = .slice ao n cap) (hn : ys.length = n) (hown : Own S w B 105 v xs) (hys : Arr S2 w ao ys) (hcc : ∀ (cs : List Value) (y : Api.DPair), Rep.cells S2 w cs y → Rep.cells S w cs y) (hnil : ao = none → cap = 0)
    (hS : ∀ b, S b → b < w.heap.size ∧ v.ownBlock ≠ some b) (h63 : xs.length + n ≤ 1000000000) (hbase : B ≤ w.heap.size)
    (h : ∀ v' w', Own S w' B 105 v' (xs ++ ys) → w.grownBy w' v.ownBlock → wpList Try.prog ops Q rest (a.put o.dst v') w') : wpList Try.prog ops Q (o :: rest) a w := by
  subst hn
  exact wp_append hgd ho Try.underlying101 Try.infoRep101 (by decide) (by decide) hs hx hown hys hcc hnil hS (by unfold maxLen; omega) (by omega) hbase h
theorem Try.infoRep161 : (Try.prog.info? 44).map (fun i => (i.zero, i.size, i.bytes)) = some (some (.slice none 0 0), Rep.sz (List UInt8), 24) := Try.info44
theorem Try.wp_app161 {S : Nat → Prop} {s x : Operand} (hgd : o.guard = none) (ho : o.op = .call { callee := .builtin .append, args := #[s, x], argTypes := #[161, 161] })
    {B : Nat} {v : Value} {xs : List (List UInt8)} {y : (List UInt8)} {cs : List Value} {w0 : World} {e' : TypeId} (hs : a.eval s = v) {g : Nat} (hx : a.eval x = .slice (some ⟨g, 0, none⟩) 1 1) (hw : w = w0.alloc (.cells cs.toArray e')) (hg : g = w0.heap.size) (hown : Own S w0 B 44 v xs) (hy : Rep.cells S w0 cs y)
    (hS : ∀ b, S b → b < w0.heap.size ∧ v.ownBlock ≠ some b) (h63 : xs.length + 1 ≤ 1000000000) (hbase : B ≤ w0.heap.size)
    (h : ∀ v' w', Own S w' B 44 v' (xs ++ [y]) → w0.grownBy w' v.ownBlock → wpList Try.prog ops Q rest (a.put o.dst v') w') : wpList Try.prog ops Q (o :: rest) a w :=
  wp_append1' hgd ho Try.underlying161 Try.infoRep161 (by decide) (by decide) hs hx hw hg hown hy hS (by unfold maxLen; omega) (by omega) hbase h
theorem Try.wp_appd161 {S : Nat → Prop} {s x : Operand} (hgd : o.guard = none) (ho : o.op = .call { callee := .builtin .append, args := #[s, x], argTypes := #[161, 161] })
    {B : Nat} {v : Value} {xs : List (List UInt8)} {y : (List UInt8)} {cs : List Value} {w0 : World} {e' : TypeId} (hs : a.eval s = v) {g : Nat} (hx : a.eval x = .slice (some ⟨g, 0, none⟩) 1 1) (hw : w = w0.alloc (.cells cs.toArray e')) (hg : g = w0.heap.size) (hown : Own S w0 B 44 v xs) (hy : Rep.cells S w0 cs y)
    (hS : ∀ b, S b → b < w0.heap.size ∧ v.ownBlock ≠ some b) (h63 : xs.length + 1 ≤ 1000000000) (hbase : B ≤ w0.heap.size)
    (h : ∀ v' w', Own S w' B 44 v' (xs ++ [y]) → w0.grownBy w' v.ownBlock → Stay w0 v v' → wpList Try.prog ops Q rest (a.put o.dst v') w') : wpList Try.prog ops Q (o :: rest) a w :=
  wp_append1s hgd ho Try.underlying161 Try.infoRep161 (by decide) (by decide) hs hx hw hg hown hy hS (by unfold maxLen; omega) (by omega) hbase h
theorem Try.wp_apps161 {S S2 : Nat → Prop} {s x : Operand} (hgd : o.guard = none) (ho : o.op = .call { callee := .builtin .append, args := #[s, x], argTypes := #[161, 161] })
    {B : Nat} {v : Value} {xs ys : List (List UInt8)} {ao : Option Addr} {n cap : Nat} (hs : a.eval s = v) (hx : a.eval x = .slice ao n cap) (hn : ys.length = n) (hown : Own S w B 44 v xs) (hys : Arr S2 w ao ys) (hcc : ∀ (cs : List Value) (y : (List UInt8)), Rep.cells S2 w cs y → Rep.cells S w cs y) (hnil : ao = none → cap = 0)
    (hS : ∀ b, S b → b < w.heap.size ∧ v.ownBlock ≠ some b) (h63 : xs.length + n ≤ 1000000000) (hbase : B ≤ w.heap.size)
    (h : ∀ v' w', Own S w' B 44 v' (xs ++ ys) → w.grownBy w' v.ownBlock → wpList Try.prog ops Q rest (a.put o.dst v') w') : wpList Try.prog ops Q (o :: rest) a w := by
  subst hn
  exact wp_append hgd ho Try.underlying161 Try.infoRep161 (by decide) (by decide) hs hx hown hys hcc hnil hS (by unfold maxLen; omega) (by omega) hbase h
theorem Try.infoRep177 : (Try.prog.info? 22).map (fun i => (i.zero, i.size, i.bytes)) = some (some (.slice none 0 0), Rep.sz (List Api.Event), 24) := Try.info22
theorem Try.wp_app177 {S : Nat → Prop} {s x : Operand} (hgd : o.guard = none) (ho : o.op = .call { callee := .builtin .append, args := #[s, x], argTypes := #[177, 177] })
    {B : Nat} {v : Value} {xs : List (List Api.Event)} {y : (List Api.Event)} {cs : List Value} {w0 : World} {e' : TypeId} (hs : a.eval s = v) {g : Nat} (hx : a.eval x = .slice (some ⟨g, 0, none⟩) 1 1) (hw : w = w0.alloc (.cells cs.toArray e')) (hg : g = w0.heap.size) (hown : Own S w0 B 22 v xs) (hy : Rep.cells S w0 cs y)
    (hS : ∀ b, S b → b < w0.heap.size ∧ v.ownBlock ≠ some b) (h63 : xs.length + 1 ≤ 1000000000) (hbase : B ≤ w0.heap.size)
    (h : ∀ v' w', Own S w' B 22 v' (xs ++ [y]) → w0.grownBy w' v.ownBlock → wpList Try.prog ops Q rest (a.put o.dst v') w') : wpList Try.prog ops Q (o :: rest) a w :=
  wp_append1' hgd ho Try.underlying177 Try.infoRep177 (by decide) (by decide) hs hx hw hg hown hy hS (by unfold maxLen; omega) (by omega) hbase h
theorem Try.wp_appd177 {S : Nat → Prop} {s x : Operand} (hgd : o.guard = none) (ho : o.op = .call { callee := .builtin .append, args := #[s, x], argTypes := #[177, 177] })
    {B : Nat} {v : Value} {xs : List (List Api.Event)} {y : (List Api.Event)} {cs : List Value} {w0 : World} {e' : TypeId} (hs : a.eval s = v) {g : Nat} (hx : a.eval x = .slice (some ⟨g, 0, none⟩) 1 1) (hw : w = w0.alloc (.cells cs.toArray e')) (hg : g = w0.heap.size) (hown : Own S w0 B 22 v xs) (hy : Rep.cells S w0 cs y)
    (hS : ∀ b, S b → b < w0.heap.size ∧ v.ownBlock ≠ some b) (h63 : xs.length + 1 ≤ 1000000000) (hbase : B ≤ w0.heap.size)
    (h : ∀ v' w', Own S w' B 22 v' (xs ++ [y]) → w0.grownBy w' v.ownBlock → Stay w0 v v' → wpList Try.prog ops Q rest (a.put o.dst v') w') : wpList Try.prog ops Q (o :: rest) a w :=
  wp_append1s hgd ho Try.underlying177 Try.infoRep177 (by decide) (by decide) hs hx hw hg hown hy hS (by unfold maxLen; omega) (by omega) hbase h
theorem Try.wp_apps177 {S S2 : Nat → Prop} {s x : Operand} (hgd : o.guard = none) (ho : o.op = .call { callee := .builtin .append, args := #[s, x], argTypes := #[177, 177] })
    {B : Nat} {v : Value} {xs ys : List (List Api.Event)} {ao : Option Addr} {n cap : Nat} (hs : a.eval s = v) (hx : a.eval x = .slice ao n cap) (hn : ys.length = n) (hown : Own S w B 22 v xs) (hys : Arr S2 w ao ys) (hcc : ∀ (cs : List Value) (y : (List Api.Event)), Rep.cells S2 w cs y → Rep.cells S w cs y) (hnil : ao = none → cap = 0)
    (hS : ∀ b, S b → b < w.heap.size ∧ v.ownBlock ≠ some b) (h63 : xs.length + n ≤ 1000000000) (hbase : B ≤ w.heap.size)
    (h : ∀ v' w', Own S w' B 22 v' (xs ++ ys) → w.grownBy w' v.ownBlock → wpList Try.prog ops Q rest (a.put o.dst v') w') : wpList Try.prog ops Q (o :: rest) a w := by
  subst hn
  exact wp_append hgd ho Try.underlying177 Try.infoRep177 (by decide) (by decide) hs hx hown hys hcc hnil hS (by unfold maxLen; omega) (by omega) hbase h
end Go.Proofs.Ytfdpannanpipdaa
