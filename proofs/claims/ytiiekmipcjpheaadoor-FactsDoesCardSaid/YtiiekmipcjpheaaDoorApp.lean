/- MADE BY PROGRAM (gents.py): append at each slice type that this seat knows, one element at a time. -/
import Derived.Test.YtiiekmipcjpheaaDoorTy
import Derived.Test.YtiiekmipcjpheaaDoorMem
set_option linter.unusedVariables false
set_option linter.unusedSimpArgs false
namespace Go.Proofs.YtiiekmipcjpheaaDoor
open Go.Bk Go.RowKit
variable {ops : Array Oper} {Q : Exit → Act → World → Prop} {a : Act} {w : World} {rest : List Oper} {o : Oper}

theorem Tryd.infoRep22 : (Tryd.prog.info? 78).map (fun i => (i.zero, i.size, i.bytes)) = some (some (.agg #[.int .i64 0, .int .i64 0, .bool false, .slice none 0 0, .slice none 0 0]), Rep.sz Api.Fn, 72) := Tryd.info78
theorem Tryd.wp_app22 {S : Nat → Prop} {s x : Operand} (hgd : o.guard = none) (ho : o.op = .call { callee := .builtin .append, args := #[s, x], argTypes := #[22, 22] })
    {B : Nat} {v : Value} {xs : List Api.Fn} {y : Api.Fn} {cs : List Value} {w0 : World} {e' : TypeId} (hs : a.eval s = v) {g : Nat} (hx : a.eval x = .slice (some ⟨g, 0, none⟩) 1 1) (hw : w = w0.alloc (.cells cs.toArray e')) (hg : g = w0.heap.size) (hown : Own S w0 B 78 v xs) (hy : Rep.cells S w0 cs y)
    (hS : ∀ b, S b → b < w0.heap.size ∧ v.ownBlock ≠ some b) (h63 : xs.length + 1 ≤ 1000000000) (hbase : B ≤ w0.heap.size)
    (h : ∀ v' w', Own S w' B 78 v' (xs ++ [y]) → w0.grownBy w' v.ownBlock → wpList Tryd.prog ops Q rest (a.put o.dst v') w') : wpList Tryd.prog ops Q (o :: rest) a w :=
  wp_append1' hgd ho Tryd.underlying22 Tryd.infoRep22 (by decide) (by decide) hs hx hw hg hown hy hS (by unfold maxLen; omega) (by omega) hbase h
theorem Tryd.wp_appd22 {S : Nat → Prop} {s x : Operand} (hgd : o.guard = none) (ho : o.op = .call { callee := .builtin .append, args := #[s, x], argTypes := #[22, 22] })
    {B : Nat} {v : Value} {xs : List Api.Fn} {y : Api.Fn} {cs : List Value} {w0 : World} {e' : TypeId} (hs : a.eval s = v) {g : Nat} (hx : a.eval x = .slice (some ⟨g, 0, none⟩) 1 1) (hw : w = w0.alloc (.cells cs.toArray e')) (hg : g = w0.heap.size) (hown : Own S w0 B 78 v xs) (hy : Rep.cells S w0 cs y)
    (hS : ∀ b, S b → b < w0.heap.size ∧ v.ownBlock ≠ some b) (h63 : xs.length + 1 ≤ 1000000000) (hbase : B ≤ w0.heap.size)
    (h : ∀ v' w', Own S w' B 78 v' (xs ++ [y]) → w0.grownBy w' v.ownBlock → Stay w0 v v' → wpList Tryd.prog ops Q rest (a.put o.dst v') w') : wpList Tryd.prog ops Q (o :: rest) a w :=
  wp_append1s hgd ho Tryd.underlying22 Tryd.infoRep22 (by decide) (by decide) hs hx hw hg hown hy hS (by unfold maxLen; omega) (by omega) hbase h
theorem Tryd.wp_apps22 {S S2 : Nat → Prop} {s x : Operand} (hgd : o.guard = none) (ho : o.op = .call { callee := .builtin .append, args := #[s, x], argTypes := #[22, 22] })
    {B : Nat} {v : Value} {xs ys : List Api.Fn} {ao : Option Addr} {n cap : Nat} (hs : a.eval s = v) (hx : a.eval x = .slice ao n cap) (hn : ys.length = n) (hown : Own S w B 78 v xs) (hys : Arr S2 w ao ys) (hcc : ∀ (cs : List Value) (y : Api.Fn), Rep.cells S2 w cs y → Rep.cells S w cs y) (hnil : ao = none → cap = 0)
    (hS : ∀ b, S b → b < w.heap.size ∧ v.ownBlock ≠ some b) (h63 : xs.length + n ≤ 1000000000) (hbase : B ≤ w.heap.size)
    (h : ∀ v' w', Own S w' B 78 v' (xs ++ ys) → w.grownBy w' v.ownBlock → wpList Tryd.prog ops Q rest (a.put o.dst v') w') : wpList Tryd.prog ops Q (o :: rest) a w := by
  subst hn
  exact wp_append hgd ho Tryd.underlying22 Tryd.infoRep22 (by decide) (by decide) hs hx hown hys hcc hnil hS (by unfold maxLen; omega) (by omega) hbase h
theorem Tryd.infoRep23 : (Tryd.prog.info? 46).map (fun i => (i.zero, i.size, i.bytes)) = some (some (.agg #[.int .i64 0, .int .i64 0]), Rep.sz Api.Val, 16) := Tryd.info46
theorem Tryd.wp_app23 {S : Nat → Prop} {s x : Operand} (hgd : o.guard = none) (ho : o.op = .call { callee := .builtin .append, args := #[s, x], argTypes := #[23, 23] })
    {B : Nat} {v : Value} {xs : List Api.Val} {y : Api.Val} {cs : List Value} {w0 : World} {e' : TypeId} (hs : a.eval s = v) {g : Nat} (hx : a.eval x = .slice (some ⟨g, 0, none⟩) 1 1) (hw : w = w0.alloc (.cells cs.toArray e')) (hg : g = w0.heap.size) (hown : Own S w0 B 46 v xs) (hy : Rep.cells S w0 cs y)
    (hS : ∀ b, S b → b < w0.heap.size ∧ v.ownBlock ≠ some b) (h63 : xs.length + 1 ≤ 1000000000) (hbase : B ≤ w0.heap.size)
    (h : ∀ v' w', Own S w' B 46 v' (xs ++ [y]) → w0.grownBy w' v.ownBlock → wpList Tryd.prog ops Q rest (a.put o.dst v') w') : wpList Tryd.prog ops Q (o :: rest) a w :=
  wp_append1' hgd ho Tryd.underlying23 Tryd.infoRep23 (by decide) (by decide) hs hx hw hg hown hy hS (by unfold maxLen; omega) (by omega) hbase h
theorem Tryd.wp_appd23 {S : Nat → Prop} {s x : Operand} (hgd : o.guard = none) (ho : o.op = .call { callee := .builtin .append, args := #[s, x], argTypes := #[23, 23] })
    {B : Nat} {v : Value} {xs : List Api.Val} {y : Api.Val} {cs : List Value} {w0 : World} {e' : TypeId} (hs : a.eval s = v) {g : Nat} (hx : a.eval x = .slice (some ⟨g, 0, none⟩) 1 1) (hw : w = w0.alloc (.cells cs.toArray e')) (hg : g = w0.heap.size) (hown : Own S w0 B 46 v xs) (hy : Rep.cells S w0 cs y)
    (hS : ∀ b, S b → b < w0.heap.size ∧ v.ownBlock ≠ some b) (h63 : xs.length + 1 ≤ 1000000000) (hbase : B ≤ w0.heap.size)
    (h : ∀ v' w', Own S w' B 46 v' (xs ++ [y]) → w0.grownBy w' v.ownBlock → Stay w0 v v' → wpList Tryd.prog ops Q rest (a.put o.dst v') w') : wpList Tryd.prog ops Q (o :: rest) a w :=
  wp_append1s hgd ho Tryd.underlying23 Tryd.infoRep23 (by decide) (by decide) hs hx hw hg hown hy hS (by unfold maxLen; omega) (by omega) hbase h
theorem Tryd.flat23 {S S2 : Nat → Prop} {w : World} (cs : List Value) (y : Api.Val) (h : Rep.cells S2 w cs y) : Rep.cells S w cs y := h
theorem Tryd.wp_apps23 {S S2 : Nat → Prop} {s x : Operand} (hgd : o.guard = none) (ho : o.op = .call { callee := .builtin .append, args := #[s, x], argTypes := #[23, 23] })
    {B : Nat} {v : Value} {xs ys : List Api.Val} {ao : Option Addr} {n cap : Nat} (hs : a.eval s = v) (hx : a.eval x = .slice ao n cap) (hn : ys.length = n) (hown : Own S w B 46 v xs) (hys : Arr S2 w ao ys) (hcc : ∀ (cs : List Value) (y : Api.Val), Rep.cells S2 w cs y → Rep.cells S w cs y) (hnil : ao = none → cap = 0)
    (hS : ∀ b, S b → b < w.heap.size ∧ v.ownBlock ≠ some b) (h63 : xs.length + n ≤ 1000000000) (hbase : B ≤ w.heap.size)
    (h : ∀ v' w', Own S w' B 46 v' (xs ++ ys) → w.grownBy w' v.ownBlock → wpList Tryd.prog ops Q rest (a.put o.dst v') w') : wpList Tryd.prog ops Q (o :: rest) a w := by
  subst hn
  exact wp_append hgd ho Tryd.underlying23 Tryd.infoRep23 (by decide) (by decide) hs hx hown hys hcc hnil hS (by unfold maxLen; omega) (by omega) hbase h
theorem Tryd.infoRep24 : (Tryd.prog.info? 9).map (fun i => (i.zero, i.size, i.bytes)) = some (some (.string .empty), Rep.sz ByteArray, 16) := Tryd.info9
theorem Tryd.wp_app24 {S : Nat → Prop} {s x : Operand} (hgd : o.guard = none) (ho : o.op = .call { callee := .builtin .append, args := #[s, x], argTypes := #[24, 24] })
    {B : Nat} {v : Value} {xs : List ByteArray} {y : ByteArray} {cs : List Value} {w0 : World} {e' : TypeId} (hs : a.eval s = v) {g : Nat} (hx : a.eval x = .slice (some ⟨g, 0, none⟩) 1 1) (hw : w = w0.alloc (.cells cs.toArray e')) (hg : g = w0.heap.size) (hown : Own S w0 B 9 v xs) (hy : Rep.cells S w0 cs y)
    (hS : ∀ b, S b → b < w0.heap.size ∧ v.ownBlock ≠ some b) (h63 : xs.length + 1 ≤ 1000000000) (hbase : B ≤ w0.heap.size)
    (h : ∀ v' w', Own S w' B 9 v' (xs ++ [y]) → w0.grownBy w' v.ownBlock → wpList Tryd.prog ops Q rest (a.put o.dst v') w') : wpList Tryd.prog ops Q (o :: rest) a w :=
  wp_append1' hgd ho Tryd.underlying24 Tryd.infoRep24 (by decide) (by decide) hs hx hw hg hown hy hS (by unfold maxLen; omega) (by omega) hbase h
theorem Tryd.wp_appd24 {S : Nat → Prop} {s x : Operand} (hgd : o.guard = none) (ho : o.op = .call { callee := .builtin .append, args := #[s, x], argTypes := #[24, 24] })
    {B : Nat} {v : Value} {xs : List ByteArray} {y : ByteArray} {cs : List Value} {w0 : World} {e' : TypeId} (hs : a.eval s = v) {g : Nat} (hx : a.eval x = .slice (some ⟨g, 0, none⟩) 1 1) (hw : w = w0.alloc (.cells cs.toArray e')) (hg : g = w0.heap.size) (hown : Own S w0 B 9 v xs) (hy : Rep.cells S w0 cs y)
    (hS : ∀ b, S b → b < w0.heap.size ∧ v.ownBlock ≠ some b) (h63 : xs.length + 1 ≤ 1000000000) (hbase : B ≤ w0.heap.size)
    (h : ∀ v' w', Own S w' B 9 v' (xs ++ [y]) → w0.grownBy w' v.ownBlock → Stay w0 v v' → wpList Tryd.prog ops Q rest (a.put o.dst v') w') : wpList Tryd.prog ops Q (o :: rest) a w :=
  wp_append1s hgd ho Tryd.underlying24 Tryd.infoRep24 (by decide) (by decide) hs hx hw hg hown hy hS (by unfold maxLen; omega) (by omega) hbase h
theorem Tryd.flat24 {S S2 : Nat → Prop} {w : World} (cs : List Value) (y : ByteArray) (h : Rep.cells S2 w cs y) : Rep.cells S w cs y := h
theorem Tryd.wp_apps24 {S S2 : Nat → Prop} {s x : Operand} (hgd : o.guard = none) (ho : o.op = .call { callee := .builtin .append, args := #[s, x], argTypes := #[24, 24] })
    {B : Nat} {v : Value} {xs ys : List ByteArray} {ao : Option Addr} {n cap : Nat} (hs : a.eval s = v) (hx : a.eval x = .slice ao n cap) (hn : ys.length = n) (hown : Own S w B 9 v xs) (hys : Arr S2 w ao ys) (hcc : ∀ (cs : List Value) (y : ByteArray), Rep.cells S2 w cs y → Rep.cells S w cs y) (hnil : ao = none → cap = 0)
    (hS : ∀ b, S b → b < w.heap.size ∧ v.ownBlock ≠ some b) (h63 : xs.length + n ≤ 1000000000) (hbase : B ≤ w.heap.size)
    (h : ∀ v' w', Own S w' B 9 v' (xs ++ ys) → w.grownBy w' v.ownBlock → wpList Tryd.prog ops Q rest (a.put o.dst v') w') : wpList Tryd.prog ops Q (o :: rest) a w := by
  subst hn
  exact wp_append hgd ho Tryd.underlying24 Tryd.infoRep24 (by decide) (by decide) hs hx hown hys hcc hnil hS (by unfold maxLen; omega) (by omega) hbase h
theorem Tryd.infoRep27 : (Tryd.prog.info? 48).map (fun i => (i.zero, i.size, i.bytes)) = some (some (.agg #[.int .i64 0, .int .i64 0, .int .i64 0, .int .i64 0, .int .i64 0, .int .i64 0, .int .i64 0, .int .i64 0]), Rep.sz Api.TIns, 64) := Tryd.info48
theorem Tryd.wp_app27 {S : Nat → Prop} {s x : Operand} (hgd : o.guard = none) (ho : o.op = .call { callee := .builtin .append, args := #[s, x], argTypes := #[27, 27] })
    {B : Nat} {v : Value} {xs : List Api.TIns} {y : Api.TIns} {cs : List Value} {w0 : World} {e' : TypeId} (hs : a.eval s = v) {g : Nat} (hx : a.eval x = .slice (some ⟨g, 0, none⟩) 1 1) (hw : w = w0.alloc (.cells cs.toArray e')) (hg : g = w0.heap.size) (hown : Own S w0 B 48 v xs) (hy : Rep.cells S w0 cs y)
    (hS : ∀ b, S b → b < w0.heap.size ∧ v.ownBlock ≠ some b) (h63 : xs.length + 1 ≤ 1000000000) (hbase : B ≤ w0.heap.size)
    (h : ∀ v' w', Own S w' B 48 v' (xs ++ [y]) → w0.grownBy w' v.ownBlock → wpList Tryd.prog ops Q rest (a.put o.dst v') w') : wpList Tryd.prog ops Q (o :: rest) a w :=
  wp_append1' hgd ho Tryd.underlying27 Tryd.infoRep27 (by decide) (by decide) hs hx hw hg hown hy hS (by unfold maxLen; omega) (by omega) hbase h
theorem Tryd.wp_appd27 {S : Nat → Prop} {s x : Operand} (hgd : o.guard = none) (ho : o.op = .call { callee := .builtin .append, args := #[s, x], argTypes := #[27, 27] })
    {B : Nat} {v : Value} {xs : List Api.TIns} {y : Api.TIns} {cs : List Value} {w0 : World} {e' : TypeId} (hs : a.eval s = v) {g : Nat} (hx : a.eval x = .slice (some ⟨g, 0, none⟩) 1 1) (hw : w = w0.alloc (.cells cs.toArray e')) (hg : g = w0.heap.size) (hown : Own S w0 B 48 v xs) (hy : Rep.cells S w0 cs y)
    (hS : ∀ b, S b → b < w0.heap.size ∧ v.ownBlock ≠ some b) (h63 : xs.length + 1 ≤ 1000000000) (hbase : B ≤ w0.heap.size)
    (h : ∀ v' w', Own S w' B 48 v' (xs ++ [y]) → w0.grownBy w' v.ownBlock → Stay w0 v v' → wpList Tryd.prog ops Q rest (a.put o.dst v') w') : wpList Tryd.prog ops Q (o :: rest) a w :=
  wp_append1s hgd ho Tryd.underlying27 Tryd.infoRep27 (by decide) (by decide) hs hx hw hg hown hy hS (by unfold maxLen; omega) (by omega) hbase h
theorem Tryd.flat27 {S S2 : Nat → Prop} {w : World} (cs : List Value) (y : Api.TIns) (h : Rep.cells S2 w cs y) : Rep.cells S w cs y := h
theorem Tryd.wp_apps27 {S S2 : Nat → Prop} {s x : Operand} (hgd : o.guard = none) (ho : o.op = .call { callee := .builtin .append, args := #[s, x], argTypes := #[27, 27] })
    {B : Nat} {v : Value} {xs ys : List Api.TIns} {ao : Option Addr} {n cap : Nat} (hs : a.eval s = v) (hx : a.eval x = .slice ao n cap) (hn : ys.length = n) (hown : Own S w B 48 v xs) (hys : Arr S2 w ao ys) (hcc : ∀ (cs : List Value) (y : Api.TIns), Rep.cells S2 w cs y → Rep.cells S w cs y) (hnil : ao = none → cap = 0)
    (hS : ∀ b, S b → b < w.heap.size ∧ v.ownBlock ≠ some b) (h63 : xs.length + n ≤ 1000000000) (hbase : B ≤ w.heap.size)
    (h : ∀ v' w', Own S w' B 48 v' (xs ++ ys) → w.grownBy w' v.ownBlock → wpList Tryd.prog ops Q rest (a.put o.dst v') w') : wpList Tryd.prog ops Q (o :: rest) a w := by
  subst hn
  exact wp_append hgd ho Tryd.underlying27 Tryd.infoRep27 (by decide) (by decide) hs hx hown hys hcc hnil hS (by unfold maxLen; omega) (by omega) hbase h
theorem Tryd.infoRep28 : (Tryd.prog.info? 32).map (fun i => (i.zero, i.size, i.bytes)) = some (some (.agg #[.int .i64 0, .int .i64 0, .slice none 0 0, .slice none 0 0]), Rep.sz Api.TExit, 64) := Tryd.info32
theorem Tryd.wp_app28 {S : Nat → Prop} {s x : Operand} (hgd : o.guard = none) (ho : o.op = .call { callee := .builtin .append, args := #[s, x], argTypes := #[28, 28] })
    {B : Nat} {v : Value} {xs : List Api.TExit} {y : Api.TExit} {cs : List Value} {w0 : World} {e' : TypeId} (hs : a.eval s = v) {g : Nat} (hx : a.eval x = .slice (some ⟨g, 0, none⟩) 1 1) (hw : w = w0.alloc (.cells cs.toArray e')) (hg : g = w0.heap.size) (hown : Own S w0 B 32 v xs) (hy : Rep.cells S w0 cs y)
    (hS : ∀ b, S b → b < w0.heap.size ∧ v.ownBlock ≠ some b) (h63 : xs.length + 1 ≤ 1000000000) (hbase : B ≤ w0.heap.size)
    (h : ∀ v' w', Own S w' B 32 v' (xs ++ [y]) → w0.grownBy w' v.ownBlock → wpList Tryd.prog ops Q rest (a.put o.dst v') w') : wpList Tryd.prog ops Q (o :: rest) a w :=
  wp_append1' hgd ho Tryd.underlying28 Tryd.infoRep28 (by decide) (by decide) hs hx hw hg hown hy hS (by unfold maxLen; omega) (by omega) hbase h
theorem Tryd.wp_appd28 {S : Nat → Prop} {s x : Operand} (hgd : o.guard = none) (ho : o.op = .call { callee := .builtin .append, args := #[s, x], argTypes := #[28, 28] })
    {B : Nat} {v : Value} {xs : List Api.TExit} {y : Api.TExit} {cs : List Value} {w0 : World} {e' : TypeId} (hs : a.eval s = v) {g : Nat} (hx : a.eval x = .slice (some ⟨g, 0, none⟩) 1 1) (hw : w = w0.alloc (.cells cs.toArray e')) (hg : g = w0.heap.size) (hown : Own S w0 B 32 v xs) (hy : Rep.cells S w0 cs y)
    (hS : ∀ b, S b → b < w0.heap.size ∧ v.ownBlock ≠ some b) (h63 : xs.length + 1 ≤ 1000000000) (hbase : B ≤ w0.heap.size)
    (h : ∀ v' w', Own S w' B 32 v' (xs ++ [y]) → w0.grownBy w' v.ownBlock → Stay w0 v v' → wpList Tryd.prog ops Q rest (a.put o.dst v') w') : wpList Tryd.prog ops Q (o :: rest) a w :=
  wp_append1s hgd ho Tryd.underlying28 Tryd.infoRep28 (by decide) (by decide) hs hx hw hg hown hy hS (by unfold maxLen; omega) (by omega) hbase h
theorem Tryd.wp_apps28 {S S2 : Nat → Prop} {s x : Operand} (hgd : o.guard = none) (ho : o.op = .call { callee := .builtin .append, args := #[s, x], argTypes := #[28, 28] })
    {B : Nat} {v : Value} {xs ys : List Api.TExit} {ao : Option Addr} {n cap : Nat} (hs : a.eval s = v) (hx : a.eval x = .slice ao n cap) (hn : ys.length = n) (hown : Own S w B 32 v xs) (hys : Arr S2 w ao ys) (hcc : ∀ (cs : List Value) (y : Api.TExit), Rep.cells S2 w cs y → Rep.cells S w cs y) (hnil : ao = none → cap = 0)
    (hS : ∀ b, S b → b < w.heap.size ∧ v.ownBlock ≠ some b) (h63 : xs.length + n ≤ 1000000000) (hbase : B ≤ w.heap.size)
    (h : ∀ v' w', Own S w' B 32 v' (xs ++ ys) → w.grownBy w' v.ownBlock → wpList Tryd.prog ops Q rest (a.put o.dst v') w') : wpList Tryd.prog ops Q (o :: rest) a w := by
  subst hn
  exact wp_append hgd ho Tryd.underlying28 Tryd.infoRep28 (by decide) (by decide) hs hx hown hys hcc hnil hS (by unfold maxLen; omega) (by omega) hbase h
theorem Tryd.infoRep29 : (Tryd.prog.info? 64).map (fun i => (i.zero, i.size, i.bytes)) = some (some (.agg #[.int .i64 0, .int .i64 0]), Rep.sz Api.TSet, 16) := Tryd.info64
theorem Tryd.wp_app29 {S : Nat → Prop} {s x : Operand} (hgd : o.guard = none) (ho : o.op = .call { callee := .builtin .append, args := #[s, x], argTypes := #[29, 29] })
    {B : Nat} {v : Value} {xs : List Api.TSet} {y : Api.TSet} {cs : List Value} {w0 : World} {e' : TypeId} (hs : a.eval s = v) {g : Nat} (hx : a.eval x = .slice (some ⟨g, 0, none⟩) 1 1) (hw : w = w0.alloc (.cells cs.toArray e')) (hg : g = w0.heap.size) (hown : Own S w0 B 64 v xs) (hy : Rep.cells S w0 cs y)
    (hS : ∀ b, S b → b < w0.heap.size ∧ v.ownBlock ≠ some b) (h63 : xs.length + 1 ≤ 1000000000) (hbase : B ≤ w0.heap.size)
    (h : ∀ v' w', Own S w' B 64 v' (xs ++ [y]) → w0.grownBy w' v.ownBlock → wpList Tryd.prog ops Q rest (a.put o.dst v') w') : wpList Tryd.prog ops Q (o :: rest) a w :=
  wp_append1' hgd ho Tryd.underlying29 Tryd.infoRep29 (by decide) (by decide) hs hx hw hg hown hy hS (by unfold maxLen; omega) (by omega) hbase h
theorem Tryd.wp_appd29 {S : Nat → Prop} {s x : Operand} (hgd : o.guard = none) (ho : o.op = .call { callee := .builtin .append, args := #[s, x], argTypes := #[29, 29] })
    {B : Nat} {v : Value} {xs : List Api.TSet} {y : Api.TSet} {cs : List Value} {w0 : World} {e' : TypeId} (hs : a.eval s = v) {g : Nat} (hx : a.eval x = .slice (some ⟨g, 0, none⟩) 1 1) (hw : w = w0.alloc (.cells cs.toArray e')) (hg : g = w0.heap.size) (hown : Own S w0 B 64 v xs) (hy : Rep.cells S w0 cs y)
    (hS : ∀ b, S b → b < w0.heap.size ∧ v.ownBlock ≠ some b) (h63 : xs.length + 1 ≤ 1000000000) (hbase : B ≤ w0.heap.size)
    (h : ∀ v' w', Own S w' B 64 v' (xs ++ [y]) → w0.grownBy w' v.ownBlock → Stay w0 v v' → wpList Tryd.prog ops Q rest (a.put o.dst v') w') : wpList Tryd.prog ops Q (o :: rest) a w :=
  wp_append1s hgd ho Tryd.underlying29 Tryd.infoRep29 (by decide) (by decide) hs hx hw hg hown hy hS (by unfold maxLen; omega) (by omega) hbase h
theorem Tryd.flat29 {S S2 : Nat → Prop} {w : World} (cs : List Value) (y : Api.TSet) (h : Rep.cells S2 w cs y) : Rep.cells S w cs y := h
theorem Tryd.wp_apps29 {S S2 : Nat → Prop} {s x : Operand} (hgd : o.guard = none) (ho : o.op = .call { callee := .builtin .append, args := #[s, x], argTypes := #[29, 29] })
    {B : Nat} {v : Value} {xs ys : List Api.TSet} {ao : Option Addr} {n cap : Nat} (hs : a.eval s = v) (hx : a.eval x = .slice ao n cap) (hn : ys.length = n) (hown : Own S w B 64 v xs) (hys : Arr S2 w ao ys) (hcc : ∀ (cs : List Value) (y : Api.TSet), Rep.cells S2 w cs y → Rep.cells S w cs y) (hnil : ao = none → cap = 0)
    (hS : ∀ b, S b → b < w.heap.size ∧ v.ownBlock ≠ some b) (h63 : xs.length + n ≤ 1000000000) (hbase : B ≤ w.heap.size)
    (h : ∀ v' w', Own S w' B 64 v' (xs ++ ys) → w.grownBy w' v.ownBlock → wpList Tryd.prog ops Q rest (a.put o.dst v') w') : wpList Tryd.prog ops Q (o :: rest) a w := by
  subst hn
  exact wp_append hgd ho Tryd.underlying29 Tryd.infoRep29 (by decide) (by decide) hs hx hown hys hcc hnil hS (by unfold maxLen; omega) (by omega) hbase h
theorem Tryd.infoRep30 : (Tryd.prog.info? 66).map (fun i => (i.zero, i.size, i.bytes)) = some (some (.agg #[.int .i64 0, .int .i64 0, .int .i64 0, .slice none 0 0]), Rep.sz Api.TMake, 48) := Tryd.info66
theorem Tryd.wp_app30 {S : Nat → Prop} {s x : Operand} (hgd : o.guard = none) (ho : o.op = .call { callee := .builtin .append, args := #[s, x], argTypes := #[30, 30] })
    {B : Nat} {v : Value} {xs : List Api.TMake} {y : Api.TMake} {cs : List Value} {w0 : World} {e' : TypeId} (hs : a.eval s = v) {g : Nat} (hx : a.eval x = .slice (some ⟨g, 0, none⟩) 1 1) (hw : w = w0.alloc (.cells cs.toArray e')) (hg : g = w0.heap.size) (hown : Own S w0 B 66 v xs) (hy : Rep.cells S w0 cs y)
    (hS : ∀ b, S b → b < w0.heap.size ∧ v.ownBlock ≠ some b) (h63 : xs.length + 1 ≤ 1000000000) (hbase : B ≤ w0.heap.size)
    (h : ∀ v' w', Own S w' B 66 v' (xs ++ [y]) → w0.grownBy w' v.ownBlock → wpList Tryd.prog ops Q rest (a.put o.dst v') w') : wpList Tryd.prog ops Q (o :: rest) a w :=
  wp_append1' hgd ho Tryd.underlying30 Tryd.infoRep30 (by decide) (by decide) hs hx hw hg hown hy hS (by unfold maxLen; omega) (by omega) hbase h
theorem Tryd.wp_appd30 {S : Nat → Prop} {s x : Operand} (hgd : o.guard = none) (ho : o.op = .call { callee := .builtin .append, args := #[s, x], argTypes := #[30, 30] })
    {B : Nat} {v : Value} {xs : List Api.TMake} {y : Api.TMake} {cs : List Value} {w0 : World} {e' : TypeId} (hs : a.eval s = v) {g : Nat} (hx : a.eval x = .slice (some ⟨g, 0, none⟩) 1 1) (hw : w = w0.alloc (.cells cs.toArray e')) (hg : g = w0.heap.size) (hown : Own S w0 B 66 v xs) (hy : Rep.cells S w0 cs y)
    (hS : ∀ b, S b → b < w0.heap.size ∧ v.ownBlock ≠ some b) (h63 : xs.length + 1 ≤ 1000000000) (hbase : B ≤ w0.heap.size)
    (h : ∀ v' w', Own S w' B 66 v' (xs ++ [y]) → w0.grownBy w' v.ownBlock → Stay w0 v v' → wpList Tryd.prog ops Q rest (a.put o.dst v') w') : wpList Tryd.prog ops Q (o :: rest) a w :=
  wp_append1s hgd ho Tryd.underlying30 Tryd.infoRep30 (by decide) (by decide) hs hx hw hg hown hy hS (by unfold maxLen; omega) (by omega) hbase h
theorem Tryd.wp_apps30 {S S2 : Nat → Prop} {s x : Operand} (hgd : o.guard = none) (ho : o.op = .call { callee := .builtin .append, args := #[s, x], argTypes := #[30, 30] })
    {B : Nat} {v : Value} {xs ys : List Api.TMake} {ao : Option Addr} {n cap : Nat} (hs : a.eval s = v) (hx : a.eval x = .slice ao n cap) (hn : ys.length = n) (hown : Own S w B 66 v xs) (hys : Arr S2 w ao ys) (hcc : ∀ (cs : List Value) (y : Api.TMake), Rep.cells S2 w cs y → Rep.cells S w cs y) (hnil : ao = none → cap = 0)
    (hS : ∀ b, S b → b < w.heap.size ∧ v.ownBlock ≠ some b) (h63 : xs.length + n ≤ 1000000000) (hbase : B ≤ w.heap.size)
    (h : ∀ v' w', Own S w' B 66 v' (xs ++ ys) → w.grownBy w' v.ownBlock → wpList Tryd.prog ops Q rest (a.put o.dst v') w') : wpList Tryd.prog ops Q (o :: rest) a w := by
  subst hn
  exact wp_append hgd ho Tryd.underlying30 Tryd.infoRep30 (by decide) (by decide) hs hx hown hys hcc hnil hS (by unfold maxLen; omega) (by omega) hbase h
theorem Tryd.infoRep35 : (Tryd.prog.info? 3).map (fun i => (i.zero, i.size, i.bytes)) = some (some (.int .i64 0), Rep.sz Int, 8) := Tryd.info3
theorem Tryd.wp_app35 {S : Nat → Prop} {s x : Operand} (hgd : o.guard = none) (ho : o.op = .call { callee := .builtin .append, args := #[s, x], argTypes := #[35, 35] })
    {B : Nat} {v : Value} {xs : List Int} {y : Int} {cs : List Value} {w0 : World} {e' : TypeId} (hs : a.eval s = v) {g : Nat} (hx : a.eval x = .slice (some ⟨g, 0, none⟩) 1 1) (hw : w = w0.alloc (.cells cs.toArray e')) (hg : g = w0.heap.size) (hown : Own S w0 B 3 v xs) (hy : Rep.cells S w0 cs y)
    (hS : ∀ b, S b → b < w0.heap.size ∧ v.ownBlock ≠ some b) (h63 : xs.length + 1 ≤ 1000000000) (hbase : B ≤ w0.heap.size)
    (h : ∀ v' w', Own S w' B 3 v' (xs ++ [y]) → w0.grownBy w' v.ownBlock → wpList Tryd.prog ops Q rest (a.put o.dst v') w') : wpList Tryd.prog ops Q (o :: rest) a w :=
  wp_append1' hgd ho Tryd.underlying35 Tryd.infoRep35 (by decide) (by decide) hs hx hw hg hown hy hS (by unfold maxLen; omega) (by omega) hbase h
theorem Tryd.wp_appd35 {S : Nat → Prop} {s x : Operand} (hgd : o.guard = none) (ho : o.op = .call { callee := .builtin .append, args := #[s, x], argTypes := #[35, 35] })
    {B : Nat} {v : Value} {xs : List Int} {y : Int} {cs : List Value} {w0 : World} {e' : TypeId} (hs : a.eval s = v) {g : Nat} (hx : a.eval x = .slice (some ⟨g, 0, none⟩) 1 1) (hw : w = w0.alloc (.cells cs.toArray e')) (hg : g = w0.heap.size) (hown : Own S w0 B 3 v xs) (hy : Rep.cells S w0 cs y)
    (hS : ∀ b, S b → b < w0.heap.size ∧ v.ownBlock ≠ some b) (h63 : xs.length + 1 ≤ 1000000000) (hbase : B ≤ w0.heap.size)
    (h : ∀ v' w', Own S w' B 3 v' (xs ++ [y]) → w0.grownBy w' v.ownBlock → Stay w0 v v' → wpList Tryd.prog ops Q rest (a.put o.dst v') w') : wpList Tryd.prog ops Q (o :: rest) a w :=
  wp_append1s hgd ho Tryd.underlying35 Tryd.infoRep35 (by decide) (by decide) hs hx hw hg hown hy hS (by unfold maxLen; omega) (by omega) hbase h
theorem Tryd.flat35 {S S2 : Nat → Prop} {w : World} (cs : List Value) (y : Int) (h : Rep.cells S2 w cs y) : Rep.cells S w cs y := h
theorem Tryd.wp_apps35 {S S2 : Nat → Prop} {s x : Operand} (hgd : o.guard = none) (ho : o.op = .call { callee := .builtin .append, args := #[s, x], argTypes := #[35, 35] })
    {B : Nat} {v : Value} {xs ys : List Int} {ao : Option Addr} {n cap : Nat} (hs : a.eval s = v) (hx : a.eval x = .slice ao n cap) (hn : ys.length = n) (hown : Own S w B 3 v xs) (hys : Arr S2 w ao ys) (hcc : ∀ (cs : List Value) (y : Int), Rep.cells S2 w cs y → Rep.cells S w cs y) (hnil : ao = none → cap = 0)
    (hS : ∀ b, S b → b < w.heap.size ∧ v.ownBlock ≠ some b) (h63 : xs.length + n ≤ 1000000000) (hbase : B ≤ w.heap.size)
    (h : ∀ v' w', Own S w' B 3 v' (xs ++ ys) → w.grownBy w' v.ownBlock → wpList Tryd.prog ops Q rest (a.put o.dst v') w') : wpList Tryd.prog ops Q (o :: rest) a w := by
  subst hn
  exact wp_append hgd ho Tryd.underlying35 Tryd.infoRep35 (by decide) (by decide) hs hx hown hys hcc hnil hS (by unfold maxLen; omega) (by omega) hbase h
theorem Tryd.infoRep76 : (Tryd.prog.info? 141).map (fun i => (i.zero, i.size, i.bytes)) = some (some (.agg #[.int .i64 0, .int .i64 0, .int .i64 0, .int .i64 0, .int .i64 0]), Rep.sz Api.Ins, 40) := Tryd.info141
theorem Tryd.wp_app76 {S : Nat → Prop} {s x : Operand} (hgd : o.guard = none) (ho : o.op = .call { callee := .builtin .append, args := #[s, x], argTypes := #[76, 76] })
    {B : Nat} {v : Value} {xs : List Api.Ins} {y : Api.Ins} {cs : List Value} {w0 : World} {e' : TypeId} (hs : a.eval s = v) {g : Nat} (hx : a.eval x = .slice (some ⟨g, 0, none⟩) 1 1) (hw : w = w0.alloc (.cells cs.toArray e')) (hg : g = w0.heap.size) (hown : Own S w0 B 141 v xs) (hy : Rep.cells S w0 cs y)
    (hS : ∀ b, S b → b < w0.heap.size ∧ v.ownBlock ≠ some b) (h63 : xs.length + 1 ≤ 1000000000) (hbase : B ≤ w0.heap.size)
    (h : ∀ v' w', Own S w' B 141 v' (xs ++ [y]) → w0.grownBy w' v.ownBlock → wpList Tryd.prog ops Q rest (a.put o.dst v') w') : wpList Tryd.prog ops Q (o :: rest) a w :=
  wp_append1' hgd ho Tryd.underlying76 Tryd.infoRep76 (by decide) (by decide) hs hx hw hg hown hy hS (by unfold maxLen; omega) (by omega) hbase h
theorem Tryd.wp_appd76 {S : Nat → Prop} {s x : Operand} (hgd : o.guard = none) (ho : o.op = .call { callee := .builtin .append, args := #[s, x], argTypes := #[76, 76] })
    {B : Nat} {v : Value} {xs : List Api.Ins} {y : Api.Ins} {cs : List Value} {w0 : World} {e' : TypeId} (hs : a.eval s = v) {g : Nat} (hx : a.eval x = .slice (some ⟨g, 0, none⟩) 1 1) (hw : w = w0.alloc (.cells cs.toArray e')) (hg : g = w0.heap.size) (hown : Own S w0 B 141 v xs) (hy : Rep.cells S w0 cs y)
    (hS : ∀ b, S b → b < w0.heap.size ∧ v.ownBlock ≠ some b) (h63 : xs.length + 1 ≤ 1000000000) (hbase : B ≤ w0.heap.size)
    (h : ∀ v' w', Own S w' B 141 v' (xs ++ [y]) → w0.grownBy w' v.ownBlock → Stay w0 v v' → wpList Tryd.prog ops Q rest (a.put o.dst v') w') : wpList Tryd.prog ops Q (o :: rest) a w :=
  wp_append1s hgd ho Tryd.underlying76 Tryd.infoRep76 (by decide) (by decide) hs hx hw hg hown hy hS (by unfold maxLen; omega) (by omega) hbase h
theorem Tryd.flat76 {S S2 : Nat → Prop} {w : World} (cs : List Value) (y : Api.Ins) (h : Rep.cells S2 w cs y) : Rep.cells S w cs y := h
theorem Tryd.wp_apps76 {S S2 : Nat → Prop} {s x : Operand} (hgd : o.guard = none) (ho : o.op = .call { callee := .builtin .append, args := #[s, x], argTypes := #[76, 76] })
    {B : Nat} {v : Value} {xs ys : List Api.Ins} {ao : Option Addr} {n cap : Nat} (hs : a.eval s = v) (hx : a.eval x = .slice ao n cap) (hn : ys.length = n) (hown : Own S w B 141 v xs) (hys : Arr S2 w ao ys) (hcc : ∀ (cs : List Value) (y : Api.Ins), Rep.cells S2 w cs y → Rep.cells S w cs y) (hnil : ao = none → cap = 0)
    (hS : ∀ b, S b → b < w.heap.size ∧ v.ownBlock ≠ some b) (h63 : xs.length + n ≤ 1000000000) (hbase : B ≤ w.heap.size)
    (h : ∀ v' w', Own S w' B 141 v' (xs ++ ys) → w.grownBy w' v.ownBlock → wpList Tryd.prog ops Q rest (a.put o.dst v') w') : wpList Tryd.prog ops Q (o :: rest) a w := by
  subst hn
  exact wp_append hgd ho Tryd.underlying76 Tryd.infoRep76 (by decide) (by decide) hs hx hown hys hcc hnil hS (by unfold maxLen; omega) (by omega) hbase h
theorem Tryd.infoRep100 : (Tryd.prog.info? 4).map (fun i => (i.zero, i.size, i.bytes)) = some (some (.bool false), Rep.sz Bool, 1) := Tryd.info4
theorem Tryd.wp_app100 {S : Nat → Prop} {s x : Operand} (hgd : o.guard = none) (ho : o.op = .call { callee := .builtin .append, args := #[s, x], argTypes := #[100, 100] })
    {B : Nat} {v : Value} {xs : List Bool} {y : Bool} {cs : List Value} {w0 : World} {e' : TypeId} (hs : a.eval s = v) {g : Nat} (hx : a.eval x = .slice (some ⟨g, 0, none⟩) 1 1) (hw : w = w0.alloc (.cells cs.toArray e')) (hg : g = w0.heap.size) (hown : Own S w0 B 4 v xs) (hy : Rep.cells S w0 cs y)
    (hS : ∀ b, S b → b < w0.heap.size ∧ v.ownBlock ≠ some b) (h63 : xs.length + 1 ≤ 1000000000) (hbase : B ≤ w0.heap.size)
    (h : ∀ v' w', Own S w' B 4 v' (xs ++ [y]) → w0.grownBy w' v.ownBlock → wpList Tryd.prog ops Q rest (a.put o.dst v') w') : wpList Tryd.prog ops Q (o :: rest) a w :=
  wp_append1' hgd ho Tryd.underlying100 Tryd.infoRep100 (by decide) (by decide) hs hx hw hg hown hy hS (by unfold maxLen; omega) (by omega) hbase h
theorem Tryd.wp_appd100 {S : Nat → Prop} {s x : Operand} (hgd : o.guard = none) (ho : o.op = .call { callee := .builtin .append, args := #[s, x], argTypes := #[100, 100] })
    {B : Nat} {v : Value} {xs : List Bool} {y : Bool} {cs : List Value} {w0 : World} {e' : TypeId} (hs : a.eval s = v) {g : Nat} (hx : a.eval x = .slice (some ⟨g, 0, none⟩) 1 1) (hw : w = w0.alloc (.cells cs.toArray e')) (hg : g = w0.heap.size) (hown : Own S w0 B 4 v xs) (hy : Rep.cells S w0 cs y)
    (hS : ∀ b, S b → b < w0.heap.size ∧ v.ownBlock ≠ some b) (h63 : xs.length + 1 ≤ 1000000000) (hbase : B ≤ w0.heap.size)
    (h : ∀ v' w', Own S w' B 4 v' (xs ++ [y]) → w0.grownBy w' v.ownBlock → Stay w0 v v' → wpList Tryd.prog ops Q rest (a.put o.dst v') w') : wpList Tryd.prog ops Q (o :: rest) a w :=
  wp_append1s hgd ho Tryd.underlying100 Tryd.infoRep100 (by decide) (by decide) hs hx hw hg hown hy hS (by unfold maxLen; omega) (by omega) hbase h
theorem Tryd.flat100 {S S2 : Nat → Prop} {w : World} (cs : List Value) (y : Bool) (h : Rep.cells S2 w cs y) : Rep.cells S w cs y := h
theorem Tryd.wp_apps100 {S S2 : Nat → Prop} {s x : Operand} (hgd : o.guard = none) (ho : o.op = .call { callee := .builtin .append, args := #[s, x], argTypes := #[100, 100] })
    {B : Nat} {v : Value} {xs ys : List Bool} {ao : Option Addr} {n cap : Nat} (hs : a.eval s = v) (hx : a.eval x = .slice ao n cap) (hn : ys.length = n) (hown : Own S w B 4 v xs) (hys : Arr S2 w ao ys) (hcc : ∀ (cs : List Value) (y : Bool), Rep.cells S2 w cs y → Rep.cells S w cs y) (hnil : ao = none → cap = 0)
    (hS : ∀ b, S b → b < w.heap.size ∧ v.ownBlock ≠ some b) (h63 : xs.length + n ≤ 1000000000) (hbase : B ≤ w.heap.size)
    (h : ∀ v' w', Own S w' B 4 v' (xs ++ ys) → w.grownBy w' v.ownBlock → wpList Tryd.prog ops Q rest (a.put o.dst v') w') : wpList Tryd.prog ops Q (o :: rest) a w := by
  subst hn
  exact wp_append hgd ho Tryd.underlying100 Tryd.infoRep100 (by decide) (by decide) hs hx hown hys hcc hnil hS (by unfold maxLen; omega) (by omega) hbase h
theorem Tryd.infoRep143 : (Tryd.prog.info? 187).map (fun i => (i.zero, i.size, i.bytes)) = some (some (.slice none 0 0), Rep.sz (List Api.Try), 24) := Tryd.info187
theorem Tryd.wp_app143 {S : Nat → Prop} {s x : Operand} (hgd : o.guard = none) (ho : o.op = .call { callee := .builtin .append, args := #[s, x], argTypes := #[143, 143] })
    {B : Nat} {v : Value} {xs : List (List Api.Try)} {y : (List Api.Try)} {cs : List Value} {w0 : World} {e' : TypeId} (hs : a.eval s = v) {g : Nat} (hx : a.eval x = .slice (some ⟨g, 0, none⟩) 1 1) (hw : w = w0.alloc (.cells cs.toArray e')) (hg : g = w0.heap.size) (hown : Own S w0 B 187 v xs) (hy : Rep.cells S w0 cs y)
    (hS : ∀ b, S b → b < w0.heap.size ∧ v.ownBlock ≠ some b) (h63 : xs.length + 1 ≤ 1000000000) (hbase : B ≤ w0.heap.size)
    (h : ∀ v' w', Own S w' B 187 v' (xs ++ [y]) → w0.grownBy w' v.ownBlock → wpList Tryd.prog ops Q rest (a.put o.dst v') w') : wpList Tryd.prog ops Q (o :: rest) a w :=
  wp_append1' hgd ho Tryd.underlying143 Tryd.infoRep143 (by decide) (by decide) hs hx hw hg hown hy hS (by unfold maxLen; omega) (by omega) hbase h
theorem Tryd.wp_appd143 {S : Nat → Prop} {s x : Operand} (hgd : o.guard = none) (ho : o.op = .call { callee := .builtin .append, args := #[s, x], argTypes := #[143, 143] })
    {B : Nat} {v : Value} {xs : List (List Api.Try)} {y : (List Api.Try)} {cs : List Value} {w0 : World} {e' : TypeId} (hs : a.eval s = v) {g : Nat} (hx : a.eval x = .slice (some ⟨g, 0, none⟩) 1 1) (hw : w = w0.alloc (.cells cs.toArray e')) (hg : g = w0.heap.size) (hown : Own S w0 B 187 v xs) (hy : Rep.cells S w0 cs y)
    (hS : ∀ b, S b → b < w0.heap.size ∧ v.ownBlock ≠ some b) (h63 : xs.length + 1 ≤ 1000000000) (hbase : B ≤ w0.heap.size)
    (h : ∀ v' w', Own S w' B 187 v' (xs ++ [y]) → w0.grownBy w' v.ownBlock → Stay w0 v v' → wpList Tryd.prog ops Q rest (a.put o.dst v') w') : wpList Tryd.prog ops Q (o :: rest) a w :=
  wp_append1s hgd ho Tryd.underlying143 Tryd.infoRep143 (by decide) (by decide) hs hx hw hg hown hy hS (by unfold maxLen; omega) (by omega) hbase h
theorem Tryd.wp_apps143 {S S2 : Nat → Prop} {s x : Operand} (hgd : o.guard = none) (ho : o.op = .call { callee := .builtin .append, args := #[s, x], argTypes := #[143, 143] })
    {B : Nat} {v : Value} {xs ys : List (List Api.Try)} {ao : Option Addr} {n cap : Nat} (hs : a.eval s = v) (hx : a.eval x = .slice ao n cap) (hn : ys.length = n) (hown : Own S w B 187 v xs) (hys : Arr S2 w ao ys) (hcc : ∀ (cs : List Value) (y : (List Api.Try)), Rep.cells S2 w cs y → Rep.cells S w cs y) (hnil : ao = none → cap = 0)
    (hS : ∀ b, S b → b < w.heap.size ∧ v.ownBlock ≠ some b) (h63 : xs.length + n ≤ 1000000000) (hbase : B ≤ w.heap.size)
    (h : ∀ v' w', Own S w' B 187 v' (xs ++ ys) → w.grownBy w' v.ownBlock → wpList Tryd.prog ops Q rest (a.put o.dst v') w') : wpList Tryd.prog ops Q (o :: rest) a w := by
  subst hn
  exact wp_append hgd ho Tryd.underlying143 Tryd.infoRep143 (by decide) (by decide) hs hx hown hys hcc hnil hS (by unfold maxLen; omega) (by omega) hbase h
theorem Tryd.infoRep187 : (Tryd.prog.info? 190).map (fun i => (i.zero, i.size, i.bytes)) = some (some (.agg #[.int .i64 0, .int .i64 0]), Rep.sz Api.Try, 16) := Tryd.info190
theorem Tryd.wp_app187 {S : Nat → Prop} {s x : Operand} (hgd : o.guard = none) (ho : o.op = .call { callee := .builtin .append, args := #[s, x], argTypes := #[187, 187] })
    {B : Nat} {v : Value} {xs : List Api.Try} {y : Api.Try} {cs : List Value} {w0 : World} {e' : TypeId} (hs : a.eval s = v) {g : Nat} (hx : a.eval x = .slice (some ⟨g, 0, none⟩) 1 1) (hw : w = w0.alloc (.cells cs.toArray e')) (hg : g = w0.heap.size) (hown : Own S w0 B 190 v xs) (hy : Rep.cells S w0 cs y)
    (hS : ∀ b, S b → b < w0.heap.size ∧ v.ownBlock ≠ some b) (h63 : xs.length + 1 ≤ 1000000000) (hbase : B ≤ w0.heap.size)
    (h : ∀ v' w', Own S w' B 190 v' (xs ++ [y]) → w0.grownBy w' v.ownBlock → wpList Tryd.prog ops Q rest (a.put o.dst v') w') : wpList Tryd.prog ops Q (o :: rest) a w :=
  wp_append1' hgd ho Tryd.underlying187 Tryd.infoRep187 (by decide) (by decide) hs hx hw hg hown hy hS (by unfold maxLen; omega) (by omega) hbase h
theorem Tryd.wp_appd187 {S : Nat → Prop} {s x : Operand} (hgd : o.guard = none) (ho : o.op = .call { callee := .builtin .append, args := #[s, x], argTypes := #[187, 187] })
    {B : Nat} {v : Value} {xs : List Api.Try} {y : Api.Try} {cs : List Value} {w0 : World} {e' : TypeId} (hs : a.eval s = v) {g : Nat} (hx : a.eval x = .slice (some ⟨g, 0, none⟩) 1 1) (hw : w = w0.alloc (.cells cs.toArray e')) (hg : g = w0.heap.size) (hown : Own S w0 B 190 v xs) (hy : Rep.cells S w0 cs y)
    (hS : ∀ b, S b → b < w0.heap.size ∧ v.ownBlock ≠ some b) (h63 : xs.length + 1 ≤ 1000000000) (hbase : B ≤ w0.heap.size)
    (h : ∀ v' w', Own S w' B 190 v' (xs ++ [y]) → w0.grownBy w' v.ownBlock → Stay w0 v v' → wpList Tryd.prog ops Q rest (a.put o.dst v') w') : wpList Tryd.prog ops Q (o :: rest) a w :=
  wp_append1s hgd ho Tryd.underlying187 Tryd.infoRep187 (by decide) (by decide) hs hx hw hg hown hy hS (by unfold maxLen; omega) (by omega) hbase h
theorem Tryd.flat187 {S S2 : Nat → Prop} {w : World} (cs : List Value) (y : Api.Try) (h : Rep.cells S2 w cs y) : Rep.cells S w cs y := h
theorem Tryd.wp_apps187 {S S2 : Nat → Prop} {s x : Operand} (hgd : o.guard = none) (ho : o.op = .call { callee := .builtin .append, args := #[s, x], argTypes := #[187, 187] })
    {B : Nat} {v : Value} {xs ys : List Api.Try} {ao : Option Addr} {n cap : Nat} (hs : a.eval s = v) (hx : a.eval x = .slice ao n cap) (hn : ys.length = n) (hown : Own S w B 190 v xs) (hys : Arr S2 w ao ys) (hcc : ∀ (cs : List Value) (y : Api.Try), Rep.cells S2 w cs y → Rep.cells S w cs y) (hnil : ao = none → cap = 0)
    (hS : ∀ b, S b → b < w.heap.size ∧ v.ownBlock ≠ some b) (h63 : xs.length + n ≤ 1000000000) (hbase : B ≤ w.heap.size)
    (h : ∀ v' w', Own S w' B 190 v' (xs ++ ys) → w.grownBy w' v.ownBlock → wpList Tryd.prog ops Q rest (a.put o.dst v') w') : wpList Tryd.prog ops Q (o :: rest) a w := by
  subst hn
  exact wp_append hgd ho Tryd.underlying187 Tryd.infoRep187 (by decide) (by decide) hs hx hown hys hcc hnil hS (by unfold maxLen; omega) (by omega) hbase h
end Go.Proofs.YtiiekmipcjpheaaDoor
