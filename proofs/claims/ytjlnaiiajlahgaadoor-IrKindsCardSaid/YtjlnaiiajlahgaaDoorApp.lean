/- MADE BY PROGRAM (gents.py): append at each slice type that this seat knows, one element at a time. -/
import Derived.Test.YtjlnaiiajlahgaaDoorTy
import Derived.Test.YtjlnaiiajlahgaaDoorApart
set_option linter.unusedVariables false
set_option linter.unusedSimpArgs false
namespace Go.Proofs.YtjlnaiiajlahgaaDoor
open Go.Bk Go.RowKit
variable {ops : Array Oper} {Q : Exit → Act → World → Prop} {a : Act} {w : World} {rest : List Oper} {o : Oper}

theorem Tryd.infoRep22 : (Tryd.prog.info? 66).map (fun i => (i.zero, i.size, i.bytes)) = some (some (.agg #[.int .i64 0, .int .i64 0, .int .i64 0, .int .i64 0, .int .i64 0, .int .i64 0, .int .i64 0, .int .i64 0]), Rep.sz Api.TIns, 64) := Tryd.info66
theorem Tryd.wp_app22 {S : Nat → Prop} {s x : Operand} (hgd : o.guard = none) (ho : o.op = .call { callee := .builtin .append, args := #[s, x], argTypes := #[22, 22] })
    {B : Nat} {v : Value} {xs : List Api.TIns} {y : Api.TIns} {cs : List Value} {w0 : World} {e' : TypeId} (hs : a.eval s = v) {g : Nat} (hx : a.eval x = .slice (some ⟨g, 0, none⟩) 1 1) (hw : w = w0.alloc (.cells cs.toArray e')) (hg : g = w0.heap.size) (hown : Own S w0 B 66 v xs) (hy : Rep.cells S w0 cs y)
    (hS : ∀ b, S b → b < w0.heap.size ∧ v.ownBlock ≠ some b) (h63 : xs.length + 1 ≤ 1000000000) (hbase : B ≤ w0.heap.size)
    (h : ∀ v' w', Own S w' B 66 v' (xs ++ [y]) → w0.grownBy w' v.ownBlock → wpList Tryd.prog ops Q rest (a.put o.dst v') w') : wpList Tryd.prog ops Q (o :: rest) a w :=
  wp_append1' hgd ho Tryd.underlying22 Tryd.infoRep22 (by decide) (by decide) hs hx hw hg hown hy hS (by unfold maxLen; omega) (by omega) hbase h
theorem Tryd.wp_appd22 {S : Nat → Prop} {s x : Operand} (hgd : o.guard = none) (ho : o.op = .call { callee := .builtin .append, args := #[s, x], argTypes := #[22, 22] })
    {B : Nat} {v : Value} {xs : List Api.TIns} {y : Api.TIns} {cs : List Value} {w0 : World} {e' : TypeId} (hs : a.eval s = v) {g : Nat} (hx : a.eval x = .slice (some ⟨g, 0, none⟩) 1 1) (hw : w = w0.alloc (.cells cs.toArray e')) (hg : g = w0.heap.size) (hown : Own S w0 B 66 v xs) (hy : Rep.cells S w0 cs y)
    (hS : ∀ b, S b → b < w0.heap.size ∧ v.ownBlock ≠ some b) (h63 : xs.length + 1 ≤ 1000000000) (hbase : B ≤ w0.heap.size)
    (h : ∀ v' w', Own S w' B 66 v' (xs ++ [y]) → w0.grownBy w' v.ownBlock → Stay w0 v v' → wpList Tryd.prog ops Q rest (a.put o.dst v') w') : wpList Tryd.prog ops Q (o :: rest) a w :=
  wp_append1s hgd ho Tryd.underlying22 Tryd.infoRep22 (by decide) (by decide) hs hx hw hg hown hy hS (by unfold maxLen; omega) (by omega) hbase h
theorem Tryd.flat22 {S S2 : Nat → Prop} {w : World} (cs : List Value) (y : Api.TIns) (h : Rep.cells S2 w cs y) : Rep.cells S w cs y := h
theorem Tryd.wp_apps22 {S S2 : Nat → Prop} {s x : Operand} (hgd : o.guard = none) (ho : o.op = .call { callee := .builtin .append, args := #[s, x], argTypes := #[22, 22] })
    {B : Nat} {v : Value} {xs ys : List Api.TIns} {ao : Option Addr} {n cap : Nat} (hs : a.eval s = v) (hx : a.eval x = .slice ao n cap) (hn : ys.length = n) (hown : Own S w B 66 v xs) (hys : Arr S2 w ao ys) (hcc : ∀ (cs : List Value) (y : Api.TIns), Rep.cells S2 w cs y → Rep.cells S w cs y) (hnil : ao = none → cap = 0)
    (hS : ∀ b, S b → b < w.heap.size ∧ v.ownBlock ≠ some b) (h63 : xs.length + n ≤ 1000000000) (hbase : B ≤ w.heap.size)
    (h : ∀ v' w', Own S w' B 66 v' (xs ++ ys) → w.grownBy w' v.ownBlock → wpList Tryd.prog ops Q rest (a.put o.dst v') w') : wpList Tryd.prog ops Q (o :: rest) a w := by
  subst hn
  exact wp_append hgd ho Tryd.underlying22 Tryd.infoRep22 (by decide) (by decide) hs hx hown hys hcc hnil hS (by unfold maxLen; omega) (by omega) hbase h
theorem Tryd.infoRep23 : (Tryd.prog.info? 27).map (fun i => (i.zero, i.size, i.bytes)) = some (some (.agg #[.int .i64 0, .int .i64 0, .slice none 0 0, .slice none 0 0]), Rep.sz Api.TExit, 64) := Tryd.info27
theorem Tryd.wp_app23 {S : Nat → Prop} {s x : Operand} (hgd : o.guard = none) (ho : o.op = .call { callee := .builtin .append, args := #[s, x], argTypes := #[23, 23] })
    {B : Nat} {v : Value} {xs : List Api.TExit} {y : Api.TExit} {cs : List Value} {w0 : World} {e' : TypeId} (hs : a.eval s = v) {g : Nat} (hx : a.eval x = .slice (some ⟨g, 0, none⟩) 1 1) (hw : w = w0.alloc (.cells cs.toArray e')) (hg : g = w0.heap.size) (hown : Own S w0 B 27 v xs) (hy : Rep.cells S w0 cs y)
    (hS : ∀ b, S b → b < w0.heap.size ∧ v.ownBlock ≠ some b) (h63 : xs.length + 1 ≤ 1000000000) (hbase : B ≤ w0.heap.size)
    (h : ∀ v' w', Own S w' B 27 v' (xs ++ [y]) → w0.grownBy w' v.ownBlock → wpList Tryd.prog ops Q rest (a.put o.dst v') w') : wpList Tryd.prog ops Q (o :: rest) a w :=
  wp_append1' hgd ho Tryd.underlying23 Tryd.infoRep23 (by decide) (by decide) hs hx hw hg hown hy hS (by unfold maxLen; omega) (by omega) hbase h
theorem Tryd.wp_appd23 {S : Nat → Prop} {s x : Operand} (hgd : o.guard = none) (ho : o.op = .call { callee := .builtin .append, args := #[s, x], argTypes := #[23, 23] })
    {B : Nat} {v : Value} {xs : List Api.TExit} {y : Api.TExit} {cs : List Value} {w0 : World} {e' : TypeId} (hs : a.eval s = v) {g : Nat} (hx : a.eval x = .slice (some ⟨g, 0, none⟩) 1 1) (hw : w = w0.alloc (.cells cs.toArray e')) (hg : g = w0.heap.size) (hown : Own S w0 B 27 v xs) (hy : Rep.cells S w0 cs y)
    (hS : ∀ b, S b → b < w0.heap.size ∧ v.ownBlock ≠ some b) (h63 : xs.length + 1 ≤ 1000000000) (hbase : B ≤ w0.heap.size)
    (h : ∀ v' w', Own S w' B 27 v' (xs ++ [y]) → w0.grownBy w' v.ownBlock → Stay w0 v v' → wpList Tryd.prog ops Q rest (a.put o.dst v') w') : wpList Tryd.prog ops Q (o :: rest) a w :=
  wp_append1s hgd ho Tryd.underlying23 Tryd.infoRep23 (by decide) (by decide) hs hx hw hg hown hy hS (by unfold maxLen; omega) (by omega) hbase h
theorem Tryd.wp_apps23 {S S2 : Nat → Prop} {s x : Operand} (hgd : o.guard = none) (ho : o.op = .call { callee := .builtin .append, args := #[s, x], argTypes := #[23, 23] })
    {B : Nat} {v : Value} {xs ys : List Api.TExit} {ao : Option Addr} {n cap : Nat} (hs : a.eval s = v) (hx : a.eval x = .slice ao n cap) (hn : ys.length = n) (hown : Own S w B 27 v xs) (hys : Arr S2 w ao ys) (hcc : ∀ (cs : List Value) (y : Api.TExit), Rep.cells S2 w cs y → Rep.cells S w cs y) (hnil : ao = none → cap = 0)
    (hS : ∀ b, S b → b < w.heap.size ∧ v.ownBlock ≠ some b) (h63 : xs.length + n ≤ 1000000000) (hbase : B ≤ w.heap.size)
    (h : ∀ v' w', Own S w' B 27 v' (xs ++ ys) → w.grownBy w' v.ownBlock → wpList Tryd.prog ops Q rest (a.put o.dst v') w') : wpList Tryd.prog ops Q (o :: rest) a w := by
  subst hn
  exact wp_append hgd ho Tryd.underlying23 Tryd.infoRep23 (by decide) (by decide) hs hx hown hys hcc hnil hS (by unfold maxLen; omega) (by omega) hbase h
theorem Tryd.infoRep24 : (Tryd.prog.info? 115).map (fun i => (i.zero, i.size, i.bytes)) = some (some (.agg #[.int .i64 0, .int .i64 0]), Rep.sz Api.TSet, 16) := Tryd.info115
theorem Tryd.wp_app24 {S : Nat → Prop} {s x : Operand} (hgd : o.guard = none) (ho : o.op = .call { callee := .builtin .append, args := #[s, x], argTypes := #[24, 24] })
    {B : Nat} {v : Value} {xs : List Api.TSet} {y : Api.TSet} {cs : List Value} {w0 : World} {e' : TypeId} (hs : a.eval s = v) {g : Nat} (hx : a.eval x = .slice (some ⟨g, 0, none⟩) 1 1) (hw : w = w0.alloc (.cells cs.toArray e')) (hg : g = w0.heap.size) (hown : Own S w0 B 115 v xs) (hy : Rep.cells S w0 cs y)
    (hS : ∀ b, S b → b < w0.heap.size ∧ v.ownBlock ≠ some b) (h63 : xs.length + 1 ≤ 1000000000) (hbase : B ≤ w0.heap.size)
    (h : ∀ v' w', Own S w' B 115 v' (xs ++ [y]) → w0.grownBy w' v.ownBlock → wpList Tryd.prog ops Q rest (a.put o.dst v') w') : wpList Tryd.prog ops Q (o :: rest) a w :=
  wp_append1' hgd ho Tryd.underlying24 Tryd.infoRep24 (by decide) (by decide) hs hx hw hg hown hy hS (by unfold maxLen; omega) (by omega) hbase h
theorem Tryd.wp_appd24 {S : Nat → Prop} {s x : Operand} (hgd : o.guard = none) (ho : o.op = .call { callee := .builtin .append, args := #[s, x], argTypes := #[24, 24] })
    {B : Nat} {v : Value} {xs : List Api.TSet} {y : Api.TSet} {cs : List Value} {w0 : World} {e' : TypeId} (hs : a.eval s = v) {g : Nat} (hx : a.eval x = .slice (some ⟨g, 0, none⟩) 1 1) (hw : w = w0.alloc (.cells cs.toArray e')) (hg : g = w0.heap.size) (hown : Own S w0 B 115 v xs) (hy : Rep.cells S w0 cs y)
    (hS : ∀ b, S b → b < w0.heap.size ∧ v.ownBlock ≠ some b) (h63 : xs.length + 1 ≤ 1000000000) (hbase : B ≤ w0.heap.size)
    (h : ∀ v' w', Own S w' B 115 v' (xs ++ [y]) → w0.grownBy w' v.ownBlock → Stay w0 v v' → wpList Tryd.prog ops Q rest (a.put o.dst v') w') : wpList Tryd.prog ops Q (o :: rest) a w :=
  wp_append1s hgd ho Tryd.underlying24 Tryd.infoRep24 (by decide) (by decide) hs hx hw hg hown hy hS (by unfold maxLen; omega) (by omega) hbase h
theorem Tryd.flat24 {S S2 : Nat → Prop} {w : World} (cs : List Value) (y : Api.TSet) (h : Rep.cells S2 w cs y) : Rep.cells S w cs y := h
theorem Tryd.wp_apps24 {S S2 : Nat → Prop} {s x : Operand} (hgd : o.guard = none) (ho : o.op = .call { callee := .builtin .append, args := #[s, x], argTypes := #[24, 24] })
    {B : Nat} {v : Value} {xs ys : List Api.TSet} {ao : Option Addr} {n cap : Nat} (hs : a.eval s = v) (hx : a.eval x = .slice ao n cap) (hn : ys.length = n) (hown : Own S w B 115 v xs) (hys : Arr S2 w ao ys) (hcc : ∀ (cs : List Value) (y : Api.TSet), Rep.cells S2 w cs y → Rep.cells S w cs y) (hnil : ao = none → cap = 0)
    (hS : ∀ b, S b → b < w.heap.size ∧ v.ownBlock ≠ some b) (h63 : xs.length + n ≤ 1000000000) (hbase : B ≤ w.heap.size)
    (h : ∀ v' w', Own S w' B 115 v' (xs ++ ys) → w.grownBy w' v.ownBlock → wpList Tryd.prog ops Q rest (a.put o.dst v') w') : wpList Tryd.prog ops Q (o :: rest) a w := by
  subst hn
  exact wp_append hgd ho Tryd.underlying24 Tryd.infoRep24 (by decide) (by decide) hs hx hown hys hcc hnil hS (by unfold maxLen; omega) (by omega) hbase h
theorem Tryd.infoRep25 : (Tryd.prog.info? 117).map (fun i => (i.zero, i.size, i.bytes)) = some (some (.agg #[.int .i64 0, .int .i64 0, .int .i64 0, .slice none 0 0]), Rep.sz Api.TMake, 48) := Tryd.info117
theorem Tryd.wp_app25 {S : Nat → Prop} {s x : Operand} (hgd : o.guard = none) (ho : o.op = .call { callee := .builtin .append, args := #[s, x], argTypes := #[25, 25] })
    {B : Nat} {v : Value} {xs : List Api.TMake} {y : Api.TMake} {cs : List Value} {w0 : World} {e' : TypeId} (hs : a.eval s = v) {g : Nat} (hx : a.eval x = .slice (some ⟨g, 0, none⟩) 1 1) (hw : w = w0.alloc (.cells cs.toArray e')) (hg : g = w0.heap.size) (hown : Own S w0 B 117 v xs) (hy : Rep.cells S w0 cs y)
    (hS : ∀ b, S b → b < w0.heap.size ∧ v.ownBlock ≠ some b) (h63 : xs.length + 1 ≤ 1000000000) (hbase : B ≤ w0.heap.size)
    (h : ∀ v' w', Own S w' B 117 v' (xs ++ [y]) → w0.grownBy w' v.ownBlock → wpList Tryd.prog ops Q rest (a.put o.dst v') w') : wpList Tryd.prog ops Q (o :: rest) a w :=
  wp_append1' hgd ho Tryd.underlying25 Tryd.infoRep25 (by decide) (by decide) hs hx hw hg hown hy hS (by unfold maxLen; omega) (by omega) hbase h
theorem Tryd.wp_appd25 {S : Nat → Prop} {s x : Operand} (hgd : o.guard = none) (ho : o.op = .call { callee := .builtin .append, args := #[s, x], argTypes := #[25, 25] })
    {B : Nat} {v : Value} {xs : List Api.TMake} {y : Api.TMake} {cs : List Value} {w0 : World} {e' : TypeId} (hs : a.eval s = v) {g : Nat} (hx : a.eval x = .slice (some ⟨g, 0, none⟩) 1 1) (hw : w = w0.alloc (.cells cs.toArray e')) (hg : g = w0.heap.size) (hown : Own S w0 B 117 v xs) (hy : Rep.cells S w0 cs y)
    (hS : ∀ b, S b → b < w0.heap.size ∧ v.ownBlock ≠ some b) (h63 : xs.length + 1 ≤ 1000000000) (hbase : B ≤ w0.heap.size)
    (h : ∀ v' w', Own S w' B 117 v' (xs ++ [y]) → w0.grownBy w' v.ownBlock → Stay w0 v v' → wpList Tryd.prog ops Q rest (a.put o.dst v') w') : wpList Tryd.prog ops Q (o :: rest) a w :=
  wp_append1s hgd ho Tryd.underlying25 Tryd.infoRep25 (by decide) (by decide) hs hx hw hg hown hy hS (by unfold maxLen; omega) (by omega) hbase h
theorem Tryd.wp_apps25 {S S2 : Nat → Prop} {s x : Operand} (hgd : o.guard = none) (ho : o.op = .call { callee := .builtin .append, args := #[s, x], argTypes := #[25, 25] })
    {B : Nat} {v : Value} {xs ys : List Api.TMake} {ao : Option Addr} {n cap : Nat} (hs : a.eval s = v) (hx : a.eval x = .slice ao n cap) (hn : ys.length = n) (hown : Own S w B 117 v xs) (hys : Arr S2 w ao ys) (hcc : ∀ (cs : List Value) (y : Api.TMake), Rep.cells S2 w cs y → Rep.cells S w cs y) (hnil : ao = none → cap = 0)
    (hS : ∀ b, S b → b < w.heap.size ∧ v.ownBlock ≠ some b) (h63 : xs.length + n ≤ 1000000000) (hbase : B ≤ w.heap.size)
    (h : ∀ v' w', Own S w' B 117 v' (xs ++ ys) → w.grownBy w' v.ownBlock → wpList Tryd.prog ops Q rest (a.put o.dst v') w') : wpList Tryd.prog ops Q (o :: rest) a w := by
  subst hn
  exact wp_append hgd ho Tryd.underlying25 Tryd.infoRep25 (by decide) (by decide) hs hx hown hys hcc hnil hS (by unfold maxLen; omega) (by omega) hbase h
theorem Tryd.infoRep36 : (Tryd.prog.info? 46).map (fun i => (i.zero, i.size, i.bytes)) = some (some (.slice none 0 0), Rep.sz (List Api.DVar), 24) := Tryd.info46
theorem Tryd.wp_app36 {S : Nat → Prop} {s x : Operand} (hgd : o.guard = none) (ho : o.op = .call { callee := .builtin .append, args := #[s, x], argTypes := #[36, 36] })
    {B : Nat} {v : Value} {xs : List (List Api.DVar)} {y : (List Api.DVar)} {cs : List Value} {w0 : World} {e' : TypeId} (hs : a.eval s = v) {g : Nat} (hx : a.eval x = .slice (some ⟨g, 0, none⟩) 1 1) (hw : w = w0.alloc (.cells cs.toArray e')) (hg : g = w0.heap.size) (hown : Own S w0 B 46 v xs) (hy : Rep.cells S w0 cs y)
    (hS : ∀ b, S b → b < w0.heap.size ∧ v.ownBlock ≠ some b) (h63 : xs.length + 1 ≤ 1000000000) (hbase : B ≤ w0.heap.size)
    (h : ∀ v' w', Own S w' B 46 v' (xs ++ [y]) → w0.grownBy w' v.ownBlock → wpList Tryd.prog ops Q rest (a.put o.dst v') w') : wpList Tryd.prog ops Q (o :: rest) a w :=
  wp_append1' hgd ho Tryd.underlying36 Tryd.infoRep36 (by decide) (by decide) hs hx hw hg hown hy hS (by unfold maxLen; omega) (by omega) hbase h
theorem Tryd.wp_appd36 {S : Nat → Prop} {s x : Operand} (hgd : o.guard = none) (ho : o.op = .call { callee := .builtin .append, args := #[s, x], argTypes := #[36, 36] })
    {B : Nat} {v : Value} {xs : List (List Api.DVar)} {y : (List Api.DVar)} {cs : List Value} {w0 : World} {e' : TypeId} (hs : a.eval s = v) {g : Nat} (hx : a.eval x = .slice (some ⟨g, 0, none⟩) 1 1) (hw : w = w0.alloc (.cells cs.toArray e')) (hg : g = w0.heap.size) (hown : Own S w0 B 46 v xs) (hy : Rep.cells S w0 cs y)
    (hS : ∀ b, S b → b < w0.heap.size ∧ v.ownBlock ≠ some b) (h63 : xs.length + 1 ≤ 1000000000) (hbase : B ≤ w0.heap.size)
    (h : ∀ v' w', Own S w' B 46 v' (xs ++ [y]) → w0.grownBy w' v.ownBlock → Stay w0 v v' → wpList Tryd.prog ops Q rest (a.put o.dst v') w') : wpList Tryd.prog ops Q (o :: rest) a w :=
  wp_append1s hgd ho Tryd.underlying36 Tryd.infoRep36 (by decide) (by decide) hs hx hw hg hown hy hS (by unfold maxLen; omega) (by omega) hbase h
theorem Tryd.wp_apps36 {S S2 : Nat → Prop} {s x : Operand} (hgd : o.guard = none) (ho : o.op = .call { callee := .builtin .append, args := #[s, x], argTypes := #[36, 36] })
    {B : Nat} {v : Value} {xs ys : List (List Api.DVar)} {ao : Option Addr} {n cap : Nat} (hs : a.eval s = v) (hx : a.eval x = .slice ao n cap) (hn : ys.length = n) (hown : Own S w B 46 v xs) (hys : Arr S2 w ao ys) (hcc : ∀ (cs : List Value) (y : (List Api.DVar)), Rep.cells S2 w cs y → Rep.cells S w cs y) (hnil : ao = none → cap = 0)
    (hS : ∀ b, S b → b < w.heap.size ∧ v.ownBlock ≠ some b) (h63 : xs.length + n ≤ 1000000000) (hbase : B ≤ w.heap.size)
    (h : ∀ v' w', Own S w' B 46 v' (xs ++ ys) → w.grownBy w' v.ownBlock → wpList Tryd.prog ops Q rest (a.put o.dst v') w') : wpList Tryd.prog ops Q (o :: rest) a w := by
  subst hn
  exact wp_append hgd ho Tryd.underlying36 Tryd.infoRep36 (by decide) (by decide) hs hx hown hys hcc hnil hS (by unfold maxLen; omega) (by omega) hbase h
theorem Tryd.infoRep46 : (Tryd.prog.info? 149).map (fun i => (i.zero, i.size, i.bytes)) = some (some (.agg #[.string .empty, .int .i64 0]), Rep.sz Api.DVar, 24) := Tryd.info149
theorem Tryd.wp_app46 {S : Nat → Prop} {s x : Operand} (hgd : o.guard = none) (ho : o.op = .call { callee := .builtin .append, args := #[s, x], argTypes := #[46, 46] })
    {B : Nat} {v : Value} {xs : List Api.DVar} {y : Api.DVar} {cs : List Value} {w0 : World} {e' : TypeId} (hs : a.eval s = v) {g : Nat} (hx : a.eval x = .slice (some ⟨g, 0, none⟩) 1 1) (hw : w = w0.alloc (.cells cs.toArray e')) (hg : g = w0.heap.size) (hown : Own S w0 B 149 v xs) (hy : Rep.cells S w0 cs y)
    (hS : ∀ b, S b → b < w0.heap.size ∧ v.ownBlock ≠ some b) (h63 : xs.length + 1 ≤ 1000000000) (hbase : B ≤ w0.heap.size)
    (h : ∀ v' w', Own S w' B 149 v' (xs ++ [y]) → w0.grownBy w' v.ownBlock → wpList Tryd.prog ops Q rest (a.put o.dst v') w') : wpList Tryd.prog ops Q (o :: rest) a w :=
  wp_append1' hgd ho Tryd.underlying46 Tryd.infoRep46 (by decide) (by decide) hs hx hw hg hown hy hS (by unfold maxLen; omega) (by omega) hbase h
theorem Tryd.wp_appd46 {S : Nat → Prop} {s x : Operand} (hgd : o.guard = none) (ho : o.op = .call { callee := .builtin .append, args := #[s, x], argTypes := #[46, 46] })
    {B : Nat} {v : Value} {xs : List Api.DVar} {y : Api.DVar} {cs : List Value} {w0 : World} {e' : TypeId} (hs : a.eval s = v) {g : Nat} (hx : a.eval x = .slice (some ⟨g, 0, none⟩) 1 1) (hw : w = w0.alloc (.cells cs.toArray e')) (hg : g = w0.heap.size) (hown : Own S w0 B 149 v xs) (hy : Rep.cells S w0 cs y)
    (hS : ∀ b, S b → b < w0.heap.size ∧ v.ownBlock ≠ some b) (h63 : xs.length + 1 ≤ 1000000000) (hbase : B ≤ w0.heap.size)
    (h : ∀ v' w', Own S w' B 149 v' (xs ++ [y]) → w0.grownBy w' v.ownBlock → Stay w0 v v' → wpList Tryd.prog ops Q rest (a.put o.dst v') w') : wpList Tryd.prog ops Q (o :: rest) a w :=
  wp_append1s hgd ho Tryd.underlying46 Tryd.infoRep46 (by decide) (by decide) hs hx hw hg hown hy hS (by unfold maxLen; omega) (by omega) hbase h
theorem Tryd.flat46 {S S2 : Nat → Prop} {w : World} (cs : List Value) (y : Api.DVar) (h : Rep.cells S2 w cs y) : Rep.cells S w cs y := h
theorem Tryd.wp_apps46 {S S2 : Nat → Prop} {s x : Operand} (hgd : o.guard = none) (ho : o.op = .call { callee := .builtin .append, args := #[s, x], argTypes := #[46, 46] })
    {B : Nat} {v : Value} {xs ys : List Api.DVar} {ao : Option Addr} {n cap : Nat} (hs : a.eval s = v) (hx : a.eval x = .slice ao n cap) (hn : ys.length = n) (hown : Own S w B 149 v xs) (hys : Arr S2 w ao ys) (hcc : ∀ (cs : List Value) (y : Api.DVar), Rep.cells S2 w cs y → Rep.cells S w cs y) (hnil : ao = none → cap = 0)
    (hS : ∀ b, S b → b < w.heap.size ∧ v.ownBlock ≠ some b) (h63 : xs.length + n ≤ 1000000000) (hbase : B ≤ w.heap.size)
    (h : ∀ v' w', Own S w' B 149 v' (xs ++ ys) → w.grownBy w' v.ownBlock → wpList Tryd.prog ops Q rest (a.put o.dst v') w') : wpList Tryd.prog ops Q (o :: rest) a w := by
  subst hn
  exact wp_append hgd ho Tryd.underlying46 Tryd.infoRep46 (by decide) (by decide) hs hx hown hys hcc hnil hS (by unfold maxLen; omega) (by omega) hbase h
theorem Tryd.infoRep48 : (Tryd.prog.info? 128).map (fun i => (i.zero, i.size, i.bytes)) = some (some (.agg #[.int .i64 0, .int .i64 0, .bool false, .slice none 0 0, .slice none 0 0]), Rep.sz Api.Fn, 72) := Tryd.info128
theorem Tryd.wp_app48 {S : Nat → Prop} {s x : Operand} (hgd : o.guard = none) (ho : o.op = .call { callee := .builtin .append, args := #[s, x], argTypes := #[48, 48] })
    {B : Nat} {v : Value} {xs : List Api.Fn} {y : Api.Fn} {cs : List Value} {w0 : World} {e' : TypeId} (hs : a.eval s = v) {g : Nat} (hx : a.eval x = .slice (some ⟨g, 0, none⟩) 1 1) (hw : w = w0.alloc (.cells cs.toArray e')) (hg : g = w0.heap.size) (hown : Own S w0 B 128 v xs) (hy : Rep.cells S w0 cs y)
    (hS : ∀ b, S b → b < w0.heap.size ∧ v.ownBlock ≠ some b) (h63 : xs.length + 1 ≤ 1000000000) (hbase : B ≤ w0.heap.size)
    (h : ∀ v' w', Own S w' B 128 v' (xs ++ [y]) → w0.grownBy w' v.ownBlock → wpList Tryd.prog ops Q rest (a.put o.dst v') w') : wpList Tryd.prog ops Q (o :: rest) a w :=
  wp_append1' hgd ho Tryd.underlying48 Tryd.infoRep48 (by decide) (by decide) hs hx hw hg hown hy hS (by unfold maxLen; omega) (by omega) hbase h
theorem Tryd.wp_appd48 {S : Nat → Prop} {s x : Operand} (hgd : o.guard = none) (ho : o.op = .call { callee := .builtin .append, args := #[s, x], argTypes := #[48, 48] })
    {B : Nat} {v : Value} {xs : List Api.Fn} {y : Api.Fn} {cs : List Value} {w0 : World} {e' : TypeId} (hs : a.eval s = v) {g : Nat} (hx : a.eval x = .slice (some ⟨g, 0, none⟩) 1 1) (hw : w = w0.alloc (.cells cs.toArray e')) (hg : g = w0.heap.size) (hown : Own S w0 B 128 v xs) (hy : Rep.cells S w0 cs y)
    (hS : ∀ b, S b → b < w0.heap.size ∧ v.ownBlock ≠ some b) (h63 : xs.length + 1 ≤ 1000000000) (hbase : B ≤ w0.heap.size)
    (h : ∀ v' w', Own S w' B 128 v' (xs ++ [y]) → w0.grownBy w' v.ownBlock → Stay w0 v v' → wpList Tryd.prog ops Q rest (a.put o.dst v') w') : wpList Tryd.prog ops Q (o :: rest) a w :=
  wp_append1s hgd ho Tryd.underlying48 Tryd.infoRep48 (by decide) (by decide) hs hx hw hg hown hy hS (by unfold maxLen; omega) (by omega) hbase h
theorem Tryd.wp_apps48 {S S2 : Nat → Prop} {s x : Operand} (hgd : o.guard = none) (ho : o.op = .call { callee := .builtin .append, args := #[s, x], argTypes := #[48, 48] })
    {B : Nat} {v : Value} {xs ys : List Api.Fn} {ao : Option Addr} {n cap : Nat} (hs : a.eval s = v) (hx : a.eval x = .slice ao n cap) (hn : ys.length = n) (hown : Own S w B 128 v xs) (hys : Arr S2 w ao ys) (hcc : ∀ (cs : List Value) (y : Api.Fn), Rep.cells S2 w cs y → Rep.cells S w cs y) (hnil : ao = none → cap = 0)
    (hS : ∀ b, S b → b < w.heap.size ∧ v.ownBlock ≠ some b) (h63 : xs.length + n ≤ 1000000000) (hbase : B ≤ w.heap.size)
    (h : ∀ v' w', Own S w' B 128 v' (xs ++ ys) → w.grownBy w' v.ownBlock → wpList Tryd.prog ops Q rest (a.put o.dst v') w') : wpList Tryd.prog ops Q (o :: rest) a w := by
  subst hn
  exact wp_append hgd ho Tryd.underlying48 Tryd.infoRep48 (by decide) (by decide) hs hx hown hys hcc hnil hS (by unfold maxLen; omega) (by omega) hbase h
theorem Tryd.infoRep49 : (Tryd.prog.info? 64).map (fun i => (i.zero, i.size, i.bytes)) = some (some (.agg #[.int .i64 0, .int .i64 0]), Rep.sz Api.Val, 16) := Tryd.info64
theorem Tryd.wp_app49 {S : Nat → Prop} {s x : Operand} (hgd : o.guard = none) (ho : o.op = .call { callee := .builtin .append, args := #[s, x], argTypes := #[49, 49] })
    {B : Nat} {v : Value} {xs : List Api.Val} {y : Api.Val} {cs : List Value} {w0 : World} {e' : TypeId} (hs : a.eval s = v) {g : Nat} (hx : a.eval x = .slice (some ⟨g, 0, none⟩) 1 1) (hw : w = w0.alloc (.cells cs.toArray e')) (hg : g = w0.heap.size) (hown : Own S w0 B 64 v xs) (hy : Rep.cells S w0 cs y)
    (hS : ∀ b, S b → b < w0.heap.size ∧ v.ownBlock ≠ some b) (h63 : xs.length + 1 ≤ 1000000000) (hbase : B ≤ w0.heap.size)
    (h : ∀ v' w', Own S w' B 64 v' (xs ++ [y]) → w0.grownBy w' v.ownBlock → wpList Tryd.prog ops Q rest (a.put o.dst v') w') : wpList Tryd.prog ops Q (o :: rest) a w :=
  wp_append1' hgd ho Tryd.underlying49 Tryd.infoRep49 (by decide) (by decide) hs hx hw hg hown hy hS (by unfold maxLen; omega) (by omega) hbase h
theorem Tryd.wp_appd49 {S : Nat → Prop} {s x : Operand} (hgd : o.guard = none) (ho : o.op = .call { callee := .builtin .append, args := #[s, x], argTypes := #[49, 49] })
    {B : Nat} {v : Value} {xs : List Api.Val} {y : Api.Val} {cs : List Value} {w0 : World} {e' : TypeId} (hs : a.eval s = v) {g : Nat} (hx : a.eval x = .slice (some ⟨g, 0, none⟩) 1 1) (hw : w = w0.alloc (.cells cs.toArray e')) (hg : g = w0.heap.size) (hown : Own S w0 B 64 v xs) (hy : Rep.cells S w0 cs y)
    (hS : ∀ b, S b → b < w0.heap.size ∧ v.ownBlock ≠ some b) (h63 : xs.length + 1 ≤ 1000000000) (hbase : B ≤ w0.heap.size)
    (h : ∀ v' w', Own S w' B 64 v' (xs ++ [y]) → w0.grownBy w' v.ownBlock → Stay w0 v v' → wpList Tryd.prog ops Q rest (a.put o.dst v') w') : wpList Tryd.prog ops Q (o :: rest) a w :=
  wp_append1s hgd ho Tryd.underlying49 Tryd.infoRep49 (by decide) (by decide) hs hx hw hg hown hy hS (by unfold maxLen; omega) (by omega) hbase h
theorem Tryd.flat49 {S S2 : Nat → Prop} {w : World} (cs : List Value) (y : Api.Val) (h : Rep.cells S2 w cs y) : Rep.cells S w cs y := h
theorem Tryd.wp_apps49 {S S2 : Nat → Prop} {s x : Operand} (hgd : o.guard = none) (ho : o.op = .call { callee := .builtin .append, args := #[s, x], argTypes := #[49, 49] })
    {B : Nat} {v : Value} {xs ys : List Api.Val} {ao : Option Addr} {n cap : Nat} (hs : a.eval s = v) (hx : a.eval x = .slice ao n cap) (hn : ys.length = n) (hown : Own S w B 64 v xs) (hys : Arr S2 w ao ys) (hcc : ∀ (cs : List Value) (y : Api.Val), Rep.cells S2 w cs y → Rep.cells S w cs y) (hnil : ao = none → cap = 0)
    (hS : ∀ b, S b → b < w.heap.size ∧ v.ownBlock ≠ some b) (h63 : xs.length + n ≤ 1000000000) (hbase : B ≤ w.heap.size)
    (h : ∀ v' w', Own S w' B 64 v' (xs ++ ys) → w.grownBy w' v.ownBlock → wpList Tryd.prog ops Q rest (a.put o.dst v') w') : wpList Tryd.prog ops Q (o :: rest) a w := by
  subst hn
  exact wp_append hgd ho Tryd.underlying49 Tryd.infoRep49 (by decide) (by decide) hs hx hown hys hcc hnil hS (by unfold maxLen; omega) (by omega) hbase h
theorem Tryd.infoRep50 : (Tryd.prog.info? 9).map (fun i => (i.zero, i.size, i.bytes)) = some (some (.string .empty), Rep.sz ByteArray, 16) := Tryd.info9
theorem Tryd.wp_app50 {S : Nat → Prop} {s x : Operand} (hgd : o.guard = none) (ho : o.op = .call { callee := .builtin .append, args := #[s, x], argTypes := #[50, 50] })
    {B : Nat} {v : Value} {xs : List ByteArray} {y : ByteArray} {cs : List Value} {w0 : World} {e' : TypeId} (hs : a.eval s = v) {g : Nat} (hx : a.eval x = .slice (some ⟨g, 0, none⟩) 1 1) (hw : w = w0.alloc (.cells cs.toArray e')) (hg : g = w0.heap.size) (hown : Own S w0 B 9 v xs) (hy : Rep.cells S w0 cs y)
    (hS : ∀ b, S b → b < w0.heap.size ∧ v.ownBlock ≠ some b) (h63 : xs.length + 1 ≤ 1000000000) (hbase : B ≤ w0.heap.size)
    (h : ∀ v' w', Own S w' B 9 v' (xs ++ [y]) → w0.grownBy w' v.ownBlock → wpList Tryd.prog ops Q rest (a.put o.dst v') w') : wpList Tryd.prog ops Q (o :: rest) a w :=
  wp_append1' hgd ho Tryd.underlying50 Tryd.infoRep50 (by decide) (by decide) hs hx hw hg hown hy hS (by unfold maxLen; omega) (by omega) hbase h
theorem Tryd.wp_appd50 {S : Nat → Prop} {s x : Operand} (hgd : o.guard = none) (ho : o.op = .call { callee := .builtin .append, args := #[s, x], argTypes := #[50, 50] })
    {B : Nat} {v : Value} {xs : List ByteArray} {y : ByteArray} {cs : List Value} {w0 : World} {e' : TypeId} (hs : a.eval s = v) {g : Nat} (hx : a.eval x = .slice (some ⟨g, 0, none⟩) 1 1) (hw : w = w0.alloc (.cells cs.toArray e')) (hg : g = w0.heap.size) (hown : Own S w0 B 9 v xs) (hy : Rep.cells S w0 cs y)
    (hS : ∀ b, S b → b < w0.heap.size ∧ v.ownBlock ≠ some b) (h63 : xs.length + 1 ≤ 1000000000) (hbase : B ≤ w0.heap.size)
    (h : ∀ v' w', Own S w' B 9 v' (xs ++ [y]) → w0.grownBy w' v.ownBlock → Stay w0 v v' → wpList Tryd.prog ops Q rest (a.put o.dst v') w') : wpList Tryd.prog ops Q (o :: rest) a w :=
  wp_append1s hgd ho Tryd.underlying50 Tryd.infoRep50 (by decide) (by decide) hs hx hw hg hown hy hS (by unfold maxLen; omega) (by omega) hbase h
theorem Tryd.flat50 {S S2 : Nat → Prop} {w : World} (cs : List Value) (y : ByteArray) (h : Rep.cells S2 w cs y) : Rep.cells S w cs y := h
theorem Tryd.wp_apps50 {S S2 : Nat → Prop} {s x : Operand} (hgd : o.guard = none) (ho : o.op = .call { callee := .builtin .append, args := #[s, x], argTypes := #[50, 50] })
    {B : Nat} {v : Value} {xs ys : List ByteArray} {ao : Option Addr} {n cap : Nat} (hs : a.eval s = v) (hx : a.eval x = .slice ao n cap) (hn : ys.length = n) (hown : Own S w B 9 v xs) (hys : Arr S2 w ao ys) (hcc : ∀ (cs : List Value) (y : ByteArray), Rep.cells S2 w cs y → Rep.cells S w cs y) (hnil : ao = none → cap = 0)
    (hS : ∀ b, S b → b < w.heap.size ∧ v.ownBlock ≠ some b) (h63 : xs.length + n ≤ 1000000000) (hbase : B ≤ w.heap.size)
    (h : ∀ v' w', Own S w' B 9 v' (xs ++ ys) → w.grownBy w' v.ownBlock → wpList Tryd.prog ops Q rest (a.put o.dst v') w') : wpList Tryd.prog ops Q (o :: rest) a w := by
  subst hn
  exact wp_append hgd ho Tryd.underlying50 Tryd.infoRep50 (by decide) (by decide) hs hx hown hys hcc hnil hS (by unfold maxLen; omega) (by omega) hbase h
theorem Tryd.infoRep56 : (Tryd.prog.info? 3).map (fun i => (i.zero, i.size, i.bytes)) = some (some (.int .i64 0), Rep.sz Int, 8) := Tryd.info3
theorem Tryd.wp_app56 {S : Nat → Prop} {s x : Operand} (hgd : o.guard = none) (ho : o.op = .call { callee := .builtin .append, args := #[s, x], argTypes := #[56, 56] })
    {B : Nat} {v : Value} {xs : List Int} {y : Int} {cs : List Value} {w0 : World} {e' : TypeId} (hs : a.eval s = v) {g : Nat} (hx : a.eval x = .slice (some ⟨g, 0, none⟩) 1 1) (hw : w = w0.alloc (.cells cs.toArray e')) (hg : g = w0.heap.size) (hown : Own S w0 B 3 v xs) (hy : Rep.cells S w0 cs y)
    (hS : ∀ b, S b → b < w0.heap.size ∧ v.ownBlock ≠ some b) (h63 : xs.length + 1 ≤ 1000000000) (hbase : B ≤ w0.heap.size)
    (h : ∀ v' w', Own S w' B 3 v' (xs ++ [y]) → w0.grownBy w' v.ownBlock → wpList Tryd.prog ops Q rest (a.put o.dst v') w') : wpList Tryd.prog ops Q (o :: rest) a w :=
  wp_append1' hgd ho Tryd.underlying56 Tryd.infoRep56 (by decide) (by decide) hs hx hw hg hown hy hS (by unfold maxLen; omega) (by omega) hbase h
theorem Tryd.wp_appd56 {S : Nat → Prop} {s x : Operand} (hgd : o.guard = none) (ho : o.op = .call { callee := .builtin .append, args := #[s, x], argTypes := #[56, 56] })
    {B : Nat} {v : Value} {xs : List Int} {y : Int} {cs : List Value} {w0 : World} {e' : TypeId} (hs : a.eval s = v) {g : Nat} (hx : a.eval x = .slice (some ⟨g, 0, none⟩) 1 1) (hw : w = w0.alloc (.cells cs.toArray e')) (hg : g = w0.heap.size) (hown : Own S w0 B 3 v xs) (hy : Rep.cells S w0 cs y)
    (hS : ∀ b, S b → b < w0.heap.size ∧ v.ownBlock ≠ some b) (h63 : xs.length + 1 ≤ 1000000000) (hbase : B ≤ w0.heap.size)
    (h : ∀ v' w', Own S w' B 3 v' (xs ++ [y]) → w0.grownBy w' v.ownBlock → Stay w0 v v' → wpList Tryd.prog ops Q rest (a.put o.dst v') w') : wpList Tryd.prog ops Q (o :: rest) a w :=
  wp_append1s hgd ho Tryd.underlying56 Tryd.infoRep56 (by decide) (by decide) hs hx hw hg hown hy hS (by unfold maxLen; omega) (by omega) hbase h
theorem Tryd.flat56 {S S2 : Nat → Prop} {w : World} (cs : List Value) (y : Int) (h : Rep.cells S2 w cs y) : Rep.cells S w cs y := h
theorem Tryd.wp_apps56 {S S2 : Nat → Prop} {s x : Operand} (hgd : o.guard = none) (ho : o.op = .call { callee := .builtin .append, args := #[s, x], argTypes := #[56, 56] })
    {B : Nat} {v : Value} {xs ys : List Int} {ao : Option Addr} {n cap : Nat} (hs : a.eval s = v) (hx : a.eval x = .slice ao n cap) (hn : ys.length = n) (hown : Own S w B 3 v xs) (hys : Arr S2 w ao ys) (hcc : ∀ (cs : List Value) (y : Int), Rep.cells S2 w cs y → Rep.cells S w cs y) (hnil : ao = none → cap = 0)
    (hS : ∀ b, S b → b < w.heap.size ∧ v.ownBlock ≠ some b) (h63 : xs.length + n ≤ 1000000000) (hbase : B ≤ w.heap.size)
    (h : ∀ v' w', Own S w' B 3 v' (xs ++ ys) → w.grownBy w' v.ownBlock → wpList Tryd.prog ops Q rest (a.put o.dst v') w') : wpList Tryd.prog ops Q (o :: rest) a w := by
  subst hn
  exact wp_append hgd ho Tryd.underlying56 Tryd.infoRep56 (by decide) (by decide) hs hx hown hys hcc hnil hS (by unfold maxLen; omega) (by omega) hbase h
theorem Tryd.infoRep74 : (Tryd.prog.info? 5).map (fun i => (i.zero, i.size, i.bytes)) = some (some (.int .u8 0), Rep.sz UInt8, 1) := Tryd.info5
theorem Tryd.wp_app74 {S : Nat → Prop} {s x : Operand} (hgd : o.guard = none) (ho : o.op = .call { callee := .builtin .append, args := #[s, x], argTypes := #[74, 74] })
    {B : Nat} {v : Value} {xs : List UInt8} {y : UInt8} {cs : List Value} {w0 : World} {e' : TypeId} (hs : a.eval s = v) {g : Nat} (hx : a.eval x = .slice (some ⟨g, 0, none⟩) 1 1) (hw : w = w0.alloc (.cells cs.toArray e')) (hg : g = w0.heap.size) (hown : Own S w0 B 5 v xs) (hy : Rep.cells S w0 cs y)
    (hS : ∀ b, S b → b < w0.heap.size ∧ v.ownBlock ≠ some b) (h63 : xs.length + 1 ≤ 1000000000) (hbase : B ≤ w0.heap.size)
    (h : ∀ v' w', Own S w' B 5 v' (xs ++ [y]) → w0.grownBy w' v.ownBlock → wpList Tryd.prog ops Q rest (a.put o.dst v') w') : wpList Tryd.prog ops Q (o :: rest) a w :=
  wp_append1' hgd ho Tryd.underlying74 Tryd.infoRep74 (by decide) (by decide) hs hx hw hg hown hy hS (by unfold maxLen; omega) (by omega) hbase h
theorem Tryd.wp_appd74 {S : Nat → Prop} {s x : Operand} (hgd : o.guard = none) (ho : o.op = .call { callee := .builtin .append, args := #[s, x], argTypes := #[74, 74] })
    {B : Nat} {v : Value} {xs : List UInt8} {y : UInt8} {cs : List Value} {w0 : World} {e' : TypeId} (hs : a.eval s = v) {g : Nat} (hx : a.eval x = .slice (some ⟨g, 0, none⟩) 1 1) (hw : w = w0.alloc (.cells cs.toArray e')) (hg : g = w0.heap.size) (hown : Own S w0 B 5 v xs) (hy : Rep.cells S w0 cs y)
    (hS : ∀ b, S b → b < w0.heap.size ∧ v.ownBlock ≠ some b) (h63 : xs.length + 1 ≤ 1000000000) (hbase : B ≤ w0.heap.size)
    (h : ∀ v' w', Own S w' B 5 v' (xs ++ [y]) → w0.grownBy w' v.ownBlock → Stay w0 v v' → wpList Tryd.prog ops Q rest (a.put o.dst v') w') : wpList Tryd.prog ops Q (o :: rest) a w :=
  wp_append1s hgd ho Tryd.underlying74 Tryd.infoRep74 (by decide) (by decide) hs hx hw hg hown hy hS (by unfold maxLen; omega) (by omega) hbase h
theorem Tryd.flat74 {S S2 : Nat → Prop} {w : World} (cs : List Value) (y : UInt8) (h : Rep.cells S2 w cs y) : Rep.cells S w cs y := h
theorem Tryd.wp_apps74 {S S2 : Nat → Prop} {s x : Operand} (hgd : o.guard = none) (ho : o.op = .call { callee := .builtin .append, args := #[s, x], argTypes := #[74, 74] })
    {B : Nat} {v : Value} {xs ys : List UInt8} {ao : Option Addr} {n cap : Nat} (hs : a.eval s = v) (hx : a.eval x = .slice ao n cap) (hn : ys.length = n) (hown : Own S w B 5 v xs) (hys : Arr S2 w ao ys) (hcc : ∀ (cs : List Value) (y : UInt8), Rep.cells S2 w cs y → Rep.cells S w cs y) (hnil : ao = none → cap = 0)
    (hS : ∀ b, S b → b < w.heap.size ∧ v.ownBlock ≠ some b) (h63 : xs.length + n ≤ 1000000000) (hbase : B ≤ w.heap.size)
    (h : ∀ v' w', Own S w' B 5 v' (xs ++ ys) → w.grownBy w' v.ownBlock → wpList Tryd.prog ops Q rest (a.put o.dst v') w') : wpList Tryd.prog ops Q (o :: rest) a w := by
  subst hn
  exact wp_append hgd ho Tryd.underlying74 Tryd.infoRep74 (by decide) (by decide) hs hx hown hys hcc hnil hS (by unfold maxLen; omega) (by omega) hbase h
theorem Tryd.infoRep126 : (Tryd.prog.info? 169).map (fun i => (i.zero, i.size, i.bytes)) = some (some (.agg #[.int .i64 0, .int .i64 0, .int .i64 0, .int .i64 0, .int .i64 0]), Rep.sz Api.Ins, 40) := Tryd.info169
theorem Tryd.wp_app126 {S : Nat → Prop} {s x : Operand} (hgd : o.guard = none) (ho : o.op = .call { callee := .builtin .append, args := #[s, x], argTypes := #[126, 126] })
    {B : Nat} {v : Value} {xs : List Api.Ins} {y : Api.Ins} {cs : List Value} {w0 : World} {e' : TypeId} (hs : a.eval s = v) {g : Nat} (hx : a.eval x = .slice (some ⟨g, 0, none⟩) 1 1) (hw : w = w0.alloc (.cells cs.toArray e')) (hg : g = w0.heap.size) (hown : Own S w0 B 169 v xs) (hy : Rep.cells S w0 cs y)
    (hS : ∀ b, S b → b < w0.heap.size ∧ v.ownBlock ≠ some b) (h63 : xs.length + 1 ≤ 1000000000) (hbase : B ≤ w0.heap.size)
    (h : ∀ v' w', Own S w' B 169 v' (xs ++ [y]) → w0.grownBy w' v.ownBlock → wpList Tryd.prog ops Q rest (a.put o.dst v') w') : wpList Tryd.prog ops Q (o :: rest) a w :=
  wp_append1' hgd ho Tryd.underlying126 Tryd.infoRep126 (by decide) (by decide) hs hx hw hg hown hy hS (by unfold maxLen; omega) (by omega) hbase h
theorem Tryd.wp_appd126 {S : Nat → Prop} {s x : Operand} (hgd : o.guard = none) (ho : o.op = .call { callee := .builtin .append, args := #[s, x], argTypes := #[126, 126] })
    {B : Nat} {v : Value} {xs : List Api.Ins} {y : Api.Ins} {cs : List Value} {w0 : World} {e' : TypeId} (hs : a.eval s = v) {g : Nat} (hx : a.eval x = .slice (some ⟨g, 0, none⟩) 1 1) (hw : w = w0.alloc (.cells cs.toArray e')) (hg : g = w0.heap.size) (hown : Own S w0 B 169 v xs) (hy : Rep.cells S w0 cs y)
    (hS : ∀ b, S b → b < w0.heap.size ∧ v.ownBlock ≠ some b) (h63 : xs.length + 1 ≤ 1000000000) (hbase : B ≤ w0.heap.size)
    (h : ∀ v' w', Own S w' B 169 v' (xs ++ [y]) → w0.grownBy w' v.ownBlock → Stay w0 v v' → wpList Tryd.prog ops Q rest (a.put o.dst v') w') : wpList Tryd.prog ops Q (o :: rest) a w :=
  wp_append1s hgd ho Tryd.underlying126 Tryd.infoRep126 (by decide) (by decide) hs hx hw hg hown hy hS (by unfold maxLen; omega) (by omega) hbase h
theorem Tryd.flat126 {S S2 : Nat → Prop} {w : World} (cs : List Value) (y : Api.Ins) (h : Rep.cells S2 w cs y) : Rep.cells S w cs y := h
theorem Tryd.wp_apps126 {S S2 : Nat → Prop} {s x : Operand} (hgd : o.guard = none) (ho : o.op = .call { callee := .builtin .append, args := #[s, x], argTypes := #[126, 126] })
    {B : Nat} {v : Value} {xs ys : List Api.Ins} {ao : Option Addr} {n cap : Nat} (hs : a.eval s = v) (hx : a.eval x = .slice ao n cap) (hn : ys.length = n) (hown : Own S w B 169 v xs) (hys : Arr S2 w ao ys) (hcc : ∀ (cs : List Value) (y : Api.Ins), Rep.cells S2 w cs y → Rep.cells S w cs y) (hnil : ao = none → cap = 0)
    (hS : ∀ b, S b → b < w.heap.size ∧ v.ownBlock ≠ some b) (h63 : xs.length + n ≤ 1000000000) (hbase : B ≤ w.heap.size)
    (h : ∀ v' w', Own S w' B 169 v' (xs ++ ys) → w.grownBy w' v.ownBlock → wpList Tryd.prog ops Q rest (a.put o.dst v') w') : wpList Tryd.prog ops Q (o :: rest) a w := by
  subst hn
  exact wp_append hgd ho Tryd.underlying126 Tryd.infoRep126 (by decide) (by decide) hs hx hown hys hcc hnil hS (by unfold maxLen; omega) (by omega) hbase h
theorem Tryd.infoRep171 : (Tryd.prog.info? 216).map (fun i => (i.zero, i.size, i.bytes)) = some (some (.slice none 0 0), Rep.sz (List Api.Try), 24) := Tryd.info216
theorem Tryd.wp_app171 {S : Nat → Prop} {s x : Operand} (hgd : o.guard = none) (ho : o.op = .call { callee := .builtin .append, args := #[s, x], argTypes := #[171, 171] })
    {B : Nat} {v : Value} {xs : List (List Api.Try)} {y : (List Api.Try)} {cs : List Value} {w0 : World} {e' : TypeId} (hs : a.eval s = v) {g : Nat} (hx : a.eval x = .slice (some ⟨g, 0, none⟩) 1 1) (hw : w = w0.alloc (.cells cs.toArray e')) (hg : g = w0.heap.size) (hown : Own S w0 B 216 v xs) (hy : Rep.cells S w0 cs y)
    (hS : ∀ b, S b → b < w0.heap.size ∧ v.ownBlock ≠ some b) (h63 : xs.length + 1 ≤ 1000000000) (hbase : B ≤ w0.heap.size)
    (h : ∀ v' w', Own S w' B 216 v' (xs ++ [y]) → w0.grownBy w' v.ownBlock → wpList Tryd.prog ops Q rest (a.put o.dst v') w') : wpList Tryd.prog ops Q (o :: rest) a w :=
  wp_append1' hgd ho Tryd.underlying171 Tryd.infoRep171 (by decide) (by decide) hs hx hw hg hown hy hS (by unfold maxLen; omega) (by omega) hbase h
theorem Tryd.wp_appd171 {S : Nat → Prop} {s x : Operand} (hgd : o.guard = none) (ho : o.op = .call { callee := .builtin .append, args := #[s, x], argTypes := #[171, 171] })
    {B : Nat} {v : Value} {xs : List (List Api.Try)} {y : (List Api.Try)} {cs : List Value} {w0 : World} {e' : TypeId} (hs : a.eval s = v) {g : Nat} (hx : a.eval x = .slice (some ⟨g, 0, none⟩) 1 1) (hw : w = w0.alloc (.cells cs.toArray e')) (hg : g = w0.heap.size) (hown : Own S w0 B 216 v xs) (hy : Rep.cells S w0 cs y)
    (hS : ∀ b, S b → b < w0.heap.size ∧ v.ownBlock ≠ some b) (h63 : xs.length + 1 ≤ 1000000000) (hbase : B ≤ w0.heap.size)
    (h : ∀ v' w', Own S w' B 216 v' (xs ++ [y]) → w0.grownBy w' v.ownBlock → Stay w0 v v' → wpList Tryd.prog ops Q rest (a.put o.dst v') w') : wpList Tryd.prog ops Q (o :: rest) a w :=
  wp_append1s hgd ho Tryd.underlying171 Tryd.infoRep171 (by decide) (by decide) hs hx hw hg hown hy hS (by unfold maxLen; omega) (by omega) hbase h
theorem Tryd.wp_apps171 {S S2 : Nat → Prop} {s x : Operand} (hgd : o.guard = none) (ho : o.op = .call { callee := .builtin .append, args := #[s, x], argTypes := #[171, 171] })
    {B : Nat} {v : Value} {xs ys : List (List Api.Try)} {ao : Option Addr} {n cap : Nat} (hs : a.eval s = v) (hx : a.eval x = .slice ao n cap) (hn : ys.length = n) (hown : Own S w B 216 v xs) (hys : Arr S2 w ao ys) (hcc : ∀ (cs : List Value) (y : (List Api.Try)), Rep.cells S2 w cs y → Rep.cells S w cs y) (hnil : ao = none → cap = 0)
    (hS : ∀ b, S b → b < w.heap.size ∧ v.ownBlock ≠ some b) (h63 : xs.length + n ≤ 1000000000) (hbase : B ≤ w.heap.size)
    (h : ∀ v' w', Own S w' B 216 v' (xs ++ ys) → w.grownBy w' v.ownBlock → wpList Tryd.prog ops Q rest (a.put o.dst v') w') : wpList Tryd.prog ops Q (o :: rest) a w := by
  subst hn
  exact wp_append hgd ho Tryd.underlying171 Tryd.infoRep171 (by decide) (by decide) hs hx hown hys hcc hnil hS (by unfold maxLen; omega) (by omega) hbase h
theorem Tryd.infoRep172 : (Tryd.prog.info? 4).map (fun i => (i.zero, i.size, i.bytes)) = some (some (.bool false), Rep.sz Bool, 1) := Tryd.info4
theorem Tryd.wp_app172 {S : Nat → Prop} {s x : Operand} (hgd : o.guard = none) (ho : o.op = .call { callee := .builtin .append, args := #[s, x], argTypes := #[172, 172] })
    {B : Nat} {v : Value} {xs : List Bool} {y : Bool} {cs : List Value} {w0 : World} {e' : TypeId} (hs : a.eval s = v) {g : Nat} (hx : a.eval x = .slice (some ⟨g, 0, none⟩) 1 1) (hw : w = w0.alloc (.cells cs.toArray e')) (hg : g = w0.heap.size) (hown : Own S w0 B 4 v xs) (hy : Rep.cells S w0 cs y)
    (hS : ∀ b, S b → b < w0.heap.size ∧ v.ownBlock ≠ some b) (h63 : xs.length + 1 ≤ 1000000000) (hbase : B ≤ w0.heap.size)
    (h : ∀ v' w', Own S w' B 4 v' (xs ++ [y]) → w0.grownBy w' v.ownBlock → wpList Tryd.prog ops Q rest (a.put o.dst v') w') : wpList Tryd.prog ops Q (o :: rest) a w :=
  wp_append1' hgd ho Tryd.underlying172 Tryd.infoRep172 (by decide) (by decide) hs hx hw hg hown hy hS (by unfold maxLen; omega) (by omega) hbase h
theorem Tryd.wp_appd172 {S : Nat → Prop} {s x : Operand} (hgd : o.guard = none) (ho : o.op = .call { callee := .builtin .append, args := #[s, x], argTypes := #[172, 172] })
    {B : Nat} {v : Value} {xs : List Bool} {y : Bool} {cs : List Value} {w0 : World} {e' : TypeId} (hs : a.eval s = v) {g : Nat} (hx : a.eval x = .slice (some ⟨g, 0, none⟩) 1 1) (hw : w = w0.alloc (.cells cs.toArray e')) (hg : g = w0.heap.size) (hown : Own S w0 B 4 v xs) (hy : Rep.cells S w0 cs y)
    (hS : ∀ b, S b → b < w0.heap.size ∧ v.ownBlock ≠ some b) (h63 : xs.length + 1 ≤ 1000000000) (hbase : B ≤ w0.heap.size)
    (h : ∀ v' w', Own S w' B 4 v' (xs ++ [y]) → w0.grownBy w' v.ownBlock → Stay w0 v v' → wpList Tryd.prog ops Q rest (a.put o.dst v') w') : wpList Tryd.prog ops Q (o :: rest) a w :=
  wp_append1s hgd ho Tryd.underlying172 Tryd.infoRep172 (by decide) (by decide) hs hx hw hg hown hy hS (by unfold maxLen; omega) (by omega) hbase h
theorem Tryd.flat172 {S S2 : Nat → Prop} {w : World} (cs : List Value) (y : Bool) (h : Rep.cells S2 w cs y) : Rep.cells S w cs y := h
theorem Tryd.wp_apps172 {S S2 : Nat → Prop} {s x : Operand} (hgd : o.guard = none) (ho : o.op = .call { callee := .builtin .append, args := #[s, x], argTypes := #[172, 172] })
    {B : Nat} {v : Value} {xs ys : List Bool} {ao : Option Addr} {n cap : Nat} (hs : a.eval s = v) (hx : a.eval x = .slice ao n cap) (hn : ys.length = n) (hown : Own S w B 4 v xs) (hys : Arr S2 w ao ys) (hcc : ∀ (cs : List Value) (y : Bool), Rep.cells S2 w cs y → Rep.cells S w cs y) (hnil : ao = none → cap = 0)
    (hS : ∀ b, S b → b < w.heap.size ∧ v.ownBlock ≠ some b) (h63 : xs.length + n ≤ 1000000000) (hbase : B ≤ w.heap.size)
    (h : ∀ v' w', Own S w' B 4 v' (xs ++ ys) → w.grownBy w' v.ownBlock → wpList Tryd.prog ops Q rest (a.put o.dst v') w') : wpList Tryd.prog ops Q (o :: rest) a w := by
  subst hn
  exact wp_append hgd ho Tryd.underlying172 Tryd.infoRep172 (by decide) (by decide) hs hx hown hys hcc hnil hS (by unfold maxLen; omega) (by omega) hbase h
theorem Tryd.infoRep216 : (Tryd.prog.info? 219).map (fun i => (i.zero, i.size, i.bytes)) = some (some (.agg #[.int .i64 0, .int .i64 0]), Rep.sz Api.Try, 16) := Tryd.info219
theorem Tryd.wp_app216 {S : Nat → Prop} {s x : Operand} (hgd : o.guard = none) (ho : o.op = .call { callee := .builtin .append, args := #[s, x], argTypes := #[216, 216] })
    {B : Nat} {v : Value} {xs : List Api.Try} {y : Api.Try} {cs : List Value} {w0 : World} {e' : TypeId} (hs : a.eval s = v) {g : Nat} (hx : a.eval x = .slice (some ⟨g, 0, none⟩) 1 1) (hw : w = w0.alloc (.cells cs.toArray e')) (hg : g = w0.heap.size) (hown : Own S w0 B 219 v xs) (hy : Rep.cells S w0 cs y)
    (hS : ∀ b, S b → b < w0.heap.size ∧ v.ownBlock ≠ some b) (h63 : xs.length + 1 ≤ 1000000000) (hbase : B ≤ w0.heap.size)
    (h : ∀ v' w', Own S w' B 219 v' (xs ++ [y]) → w0.grownBy w' v.ownBlock → wpList Tryd.prog ops Q rest (a.put o.dst v') w') : wpList Tryd.prog ops Q (o :: rest) a w :=
  wp_append1' hgd ho Tryd.underlying216 Tryd.infoRep216 (by decide) (by decide) hs hx hw hg hown hy hS (by unfold maxLen; omega) (by omega) hbase h
theorem Tryd.wp_appd216 {S : Nat → Prop} {s x : Operand} (hgd : o.guard = none) (ho : o.op = .call { callee := .builtin .append, args := #[s, x], argTypes := #[216, 216] })
    {B : Nat} {v : Value} {xs : List Api.Try} {y : Api.Try} {cs : List Value} {w0 : World} {e' : TypeId} (hs : a.eval s = v) {g : Nat} (hx : a.eval x = .slice (some ⟨g, 0, none⟩) 1 1) (hw : w = w0.alloc (.cells cs.toArray e')) (hg : g = w0.heap.size) (hown : Own S w0 B 219 v xs) (hy : Rep.cells S w0 cs y)
    (hS : ∀ b, S b → b < w0.heap.size ∧ v.ownBlock ≠ some b) (h63 : xs.length + 1 ≤ 1000000000) (hbase : B ≤ w0.heap.size)
    (h : ∀ v' w', Own S w' B 219 v' (xs ++ [y]) → w0.grownBy w' v.ownBlock → Stay w0 v v' → wpList Tryd.prog ops Q rest (a.put o.dst v') w') : wpList Tryd.prog ops Q (o :: rest) a w :=
  wp_append1s hgd ho Tryd.underlying216 Tryd.infoRep216 (by decide) (by decide) hs hx hw hg hown hy hS (by unfold maxLen; omega) (by omega) hbase h
theorem Tryd.flat216 {S S2 : Nat → Prop} {w : World} (cs : List Value) (y : Api.Try) (h : Rep.cells S2 w cs y) : Rep.cells S w cs y := h
theorem Tryd.wp_apps216 {S S2 : Nat → Prop} {s x : Operand} (hgd : o.guard = none) (ho : o.op = .call { callee := .builtin .append, args := #[s, x], argTypes := #[216, 216] })
    {B : Nat} {v : Value} {xs ys : List Api.Try} {ao : Option Addr} {n cap : Nat} (hs : a.eval s = v) (hx : a.eval x = .slice ao n cap) (hn : ys.length = n) (hown : Own S w B 219 v xs) (hys : Arr S2 w ao ys) (hcc : ∀ (cs : List Value) (y : Api.Try), Rep.cells S2 w cs y → Rep.cells S w cs y) (hnil : ao = none → cap = 0)
    (hS : ∀ b, S b → b < w.heap.size ∧ v.ownBlock ≠ some b) (h63 : xs.length + n ≤ 1000000000) (hbase : B ≤ w.heap.size)
    (h : ∀ v' w', Own S w' B 219 v' (xs ++ ys) → w.grownBy w' v.ownBlock → wpList Tryd.prog ops Q rest (a.put o.dst v') w') : wpList Tryd.prog ops Q (o :: rest) a w := by
  subst hn
  exact wp_append hgd ho Tryd.underlying216 Tryd.infoRep216 (by decide) (by decide) hs hx hown hys hcc hnil hS (by unfold maxLen; omega) (by omega) hbase h
end Go.Proofs.YtjlnaiiajlahgaaDoor
