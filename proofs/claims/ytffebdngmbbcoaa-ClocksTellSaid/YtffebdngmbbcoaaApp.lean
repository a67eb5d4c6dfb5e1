/- MADE BY PROGRAM (gents.py): append at each slice type that this seat knows, one element at a time. -/
import Derived.Test.YtffebdngmbbcoaaTy
import Derived.Test.YtffebdngmbbcoaaApart
set_option linter.unusedVariables false
set_option linter.unusedSimpArgs false
namespace Go.Proofs.Ytffebdngmbbcoaa
open Go.Bk Go.RowKit
variable {ops : Array Oper} {Q : Exit → Act → World → Prop} {a : Act} {w : World} {rest : List Oper} {o : Oper}

theorem Try.infoRep28 : (Try.prog.info? 3).map (fun i => (i.zero, i.size, i.bytes)) = some (some (.int .i64 0), Rep.sz Int, 8) := Try.info3
theorem Try.wp_app28 {S : Nat → Prop} {s x : Operand} (hgd : o.guard = none) (ho : o.op = .call { callee := .builtin .append, args := #[s, x], argTypes := #[28, 28] })
    {B : Nat} {v : Value} {xs : List Int} {y : Int} {cs : List Value} {w0 : World} {e' : TypeId} (hs : a.eval s = v) {g : Nat} (hx : a.eval x = .slice (some ⟨g, 0, none⟩) 1 1) (hw : w = w0.alloc (.cells cs.toArray e')) (hg : g = w0.heap.size) (hown : Own S w0 B 3 v xs) (hy : Rep.cells S w0 cs y)
    (hS : ∀ b, S b → b < w0.heap.size ∧ v.ownBlock ≠ some b) (h63 : xs.length + 1 ≤ 1000000000) (hbase : B ≤ w0.heap.size)
    (h : ∀ v' w', Own S w' B 3 v' (xs ++ [y]) → w0.grownBy w' v.ownBlock → wpList Try.prog ops Q rest (a.put o.dst v') w') : wpList Try.prog ops Q (o :: rest) a w :=
  wp_append1' hgd ho Try.underlying28 Try.infoRep28 (by decide) (by decide) hs hx hw hg hown hy hS (by unfold maxLen; omega) (by omega) hbase h
theorem Try.wp_appd28 {S : Nat → Prop} {s x : Operand} (hgd : o.guard = none) (ho : o.op = .call { callee := .builtin .append, args := #[s, x], argTypes := #[28, 28] })
    {B : Nat} {v : Value} {xs : List Int} {y : Int} {cs : List Value} {w0 : World} {e' : TypeId} (hs : a.eval s = v) {g : Nat} (hx : a.eval x = .slice (some ⟨g, 0, none⟩) 1 1) (hw : w = w0.alloc (.cells cs.toArray e')) (hg : g = w0.heap.size) (hown : Own S w0 B 3 v xs) (hy : Rep.cells S w0 cs y)
    (hS : ∀ b, S b → b < w0.heap.size ∧ v.ownBlock ≠ some b) (h63 : xs.length + 1 ≤ 1000000000) (hbase : B ≤ w0.heap.size)
    (h : ∀ v' w', Own S w' B 3 v' (xs ++ [y]) → w0.grownBy w' v.ownBlock → Stay w0 v v' → wpList Try.prog ops Q rest (a.put o.dst v') w') : wpList Try.prog ops Q (o :: rest) a w :=
  wp_append1s hgd ho Try.underlying28 Try.infoRep28 (by decide) (by decide) hs hx hw hg hown hy hS (by unfold maxLen; omega) (by omega) hbase h
theorem Try.flat28 {S S2 : Nat → Prop} {w : World} (cs : List Value) (y : Int) (h : Rep.cells S2 w cs y) : Rep.cells S w cs y := h
theorem Try.wp_apps28 {S S2 : Nat → Prop} {s x : Operand} (hgd : o.guard = none) (ho : o.op = .call { callee := .builtin .append, args := #[s, x], argTypes := #[28, 28] })
    {B : Nat} {v : Value} {xs ys : List Int} {ao : Option Addr} {n cap : Nat} (hs : a.eval s = v) (hx : a.eval x = .slice ao n cap) (hn : ys.length = n) (hown : Own S w B 3 v xs) (hys : Arr S2 w ao ys) (hcc : ∀ (cs : List Value) (y : Int), Rep.cells S2 w cs y → Rep.cells S w cs y) (hnil : ao = none → cap = 0)
    (hS : ∀ b, S b → b < w.heap.size ∧ v.ownBlock ≠ some b) (h63 : xs.length + n ≤ 1000000000) (hbase : B ≤ w.heap.size)
    (h : ∀ v' w', Own S w' B 3 v' (xs ++ ys) → w.grownBy w' v.ownBlock → wpList Try.prog ops Q rest (a.put o.dst v') w') : wpList Try.prog ops Q (o :: rest) a w := by
  subst hn
  exact wp_append hgd ho Try.underlying28 Try.infoRep28 (by decide) (by decide) hs hx hown hys hcc hnil hS (by unfold maxLen; omega) (by omega) hbase h
theorem Try.infoRep33 : (Try.prog.info? 39).map (fun i => (i.zero, i.size, i.bytes)) = some (some (.agg #[.int .i64 0, .int .i64 0, .int .i64 0, .int .i64 0, .int .i64 0, .int .i64 0]), Rep.sz Api.THead, 48) := Try.info39
theorem Try.wp_app33 {S : Nat → Prop} {s x : Operand} (hgd : o.guard = none) (ho : o.op = .call { callee := .builtin .append, args := #[s, x], argTypes := #[33, 33] })
    {B : Nat} {v : Value} {xs : List Api.THead} {y : Api.THead} {cs : List Value} {w0 : World} {e' : TypeId} (hs : a.eval s = v) {g : Nat} (hx : a.eval x = .slice (some ⟨g, 0, none⟩) 1 1) (hw : w = w0.alloc (.cells cs.toArray e')) (hg : g = w0.heap.size) (hown : Own S w0 B 39 v xs) (hy : Rep.cells S w0 cs y)
    (hS : ∀ b, S b → b < w0.heap.size ∧ v.ownBlock ≠ some b) (h63 : xs.length + 1 ≤ 1000000000) (hbase : B ≤ w0.heap.size)
    (h : ∀ v' w', Own S w' B 39 v' (xs ++ [y]) → w0.grownBy w' v.ownBlock → wpList Try.prog ops Q rest (a.put o.dst v') w') : wpList Try.prog ops Q (o :: rest) a w :=
  wp_append1' hgd ho Try.underlying33 Try.infoRep33 (by decide) (by decide) hs hx hw hg hown hy hS (by unfold maxLen; omega) (by omega) hbase h
theorem Try.wp_appd33 {S : Nat → Prop} {s x : Operand} (hgd : o.guard = none) (ho : o.op = .call { callee := .builtin .append, args := #[s, x], argTypes := #[33, 33] })
    {B : Nat} {v : Value} {xs : List Api.THead} {y : Api.THead} {cs : List Value} {w0 : World} {e' : TypeId} (hs : a.eval s = v) {g : Nat} (hx : a.eval x = .slice (some ⟨g, 0, none⟩) 1 1) (hw : w = w0.alloc (.cells cs.toArray e')) (hg : g = w0.heap.size) (hown : Own S w0 B 39 v xs) (hy : Rep.cells S w0 cs y)
    (hS : ∀ b, S b → b < w0.heap.size ∧ v.ownBlock ≠ some b) (h63 : xs.length + 1 ≤ 1000000000) (hbase : B ≤ w0.heap.size)
    (h : ∀ v' w', Own S w' B 39 v' (xs ++ [y]) → w0.grownBy w' v.ownBlock → Stay w0 v v' → wpList Try.prog ops Q rest (a.put o.dst v') w') : wpList Try.prog ops Q (o :: rest) a w :=
  wp_append1s hgd ho Try.underlying33 Try.infoRep33 (by decide) (by decide) hs hx hw hg hown hy hS (by unfold maxLen; omega) (by omega) hbase h
theorem Try.flat33 {S S2 : Nat → Prop} {w : World} (cs : List Value) (y : Api.THead) (h : Rep.cells S2 w cs y) : Rep.cells S w cs y := h
theorem Try.wp_apps33 {S S2 : Nat → Prop} {s x : Operand} (hgd : o.guard = none) (ho : o.op = .call { callee := .builtin .append, args := #[s, x], argTypes := #[33, 33] })
    {B : Nat} {v : Value} {xs ys : List Api.THead} {ao : Option Addr} {n cap : Nat} (hs : a.eval s = v) (hx : a.eval x = .slice ao n cap) (hn : ys.length = n) (hown : Own S w B 39 v xs) (hys : Arr S2 w ao ys) (hcc : ∀ (cs : List Value) (y : Api.THead), Rep.cells S2 w cs y → Rep.cells S w cs y) (hnil : ao = none → cap = 0)
    (hS : ∀ b, S b → b < w.heap.size ∧ v.ownBlock ≠ some b) (h63 : xs.length + n ≤ 1000000000) (hbase : B ≤ w.heap.size)
    (h : ∀ v' w', Own S w' B 39 v' (xs ++ ys) → w.grownBy w' v.ownBlock → wpList Try.prog ops Q rest (a.put o.dst v') w') : wpList Try.prog ops Q (o :: rest) a w := by
  subst hn
  exact wp_append hgd ho Try.underlying33 Try.infoRep33 (by decide) (by decide) hs hx hown hys hcc hnil hS (by unfold maxLen; omega) (by omega) hbase h
theorem Try.infoRep50 : (Try.prog.info? 70).map (fun i => (i.zero, i.size, i.bytes)) = some (some (.agg #[.int .i64 0, .int .i64 0, .int .i64 0, .int .i64 0, .int .i64 0, .int .i64 0, .int .i64 0, .int .i64 0, .int .i64 0, .int .i64 0, .int .i64 0, .int .i64 0]), Rep.sz Api.Event, 96) := Try.info70
theorem Try.wp_app50 {S : Nat → Prop} {s x : Operand} (hgd : o.guard = none) (ho : o.op = .call { callee := .builtin .append, args := #[s, x], argTypes := #[50, 50] })
    {B : Nat} {v : Value} {xs : List Api.Event} {y : Api.Event} {cs : List Value} {w0 : World} {e' : TypeId} (hs : a.eval s = v) {g : Nat} (hx : a.eval x = .slice (some ⟨g, 0, none⟩) 1 1) (hw : w = w0.alloc (.cells cs.toArray e')) (hg : g = w0.heap.size) (hown : Own S w0 B 70 v xs) (hy : Rep.cells S w0 cs y)
    (hS : ∀ b, S b → b < w0.heap.size ∧ v.ownBlock ≠ some b) (h63 : xs.length + 1 ≤ 1000000000) (hbase : B ≤ w0.heap.size)
    (h : ∀ v' w', Own S w' B 70 v' (xs ++ [y]) → w0.grownBy w' v.ownBlock → wpList Try.prog ops Q rest (a.put o.dst v') w') : wpList Try.prog ops Q (o :: rest) a w :=
  wp_append1' hgd ho Try.underlying50 Try.infoRep50 (by decide) (by decide) hs hx hw hg hown hy hS (by unfold maxLen; omega) (by omega) hbase h
theorem Try.wp_appd50 {S : Nat → Prop} {s x : Operand} (hgd : o.guard = none) (ho : o.op = .call { callee := .builtin .append, args := #[s, x], argTypes := #[50, 50] })
    {B : Nat} {v : Value} {xs : List Api.Event} {y : Api.Event} {cs : List Value} {w0 : World} {e' : TypeId} (hs : a.eval s = v) {g : Nat} (hx : a.eval x = .slice (some ⟨g, 0, none⟩) 1 1) (hw : w = w0.alloc (.cells cs.toArray e')) (hg : g = w0.heap.size) (hown : Own S w0 B 70 v xs) (hy : Rep.cells S w0 cs y)
    (hS : ∀ b, S b → b < w0.heap.size ∧ v.ownBlock ≠ some b) (h63 : xs.length + 1 ≤ 1000000000) (hbase : B ≤ w0.heap.size)
    (h : ∀ v' w', Own S w' B 70 v' (xs ++ [y]) → w0.grownBy w' v.ownBlock → Stay w0 v v' → wpList Try.prog ops Q rest (a.put o.dst v') w') : wpList Try.prog ops Q (o :: rest) a w :=
  wp_append1s hgd ho Try.underlying50 Try.infoRep50 (by decide) (by decide) hs hx hw hg hown hy hS (by unfold maxLen; omega) (by omega) hbase h
theorem Try.flat50 {S S2 : Nat → Prop} {w : World} (cs : List Value) (y : Api.Event) (h : Rep.cells S2 w cs y) : Rep.cells S w cs y := h
theorem Try.wp_apps50 {S S2 : Nat → Prop} {s x : Operand} (hgd : o.guard = none) (ho : o.op = .call { callee := .builtin .append, args := #[s, x], argTypes := #[50, 50] })
    {B : Nat} {v : Value} {xs ys : List Api.Event} {ao : Option Addr} {n cap : Nat} (hs : a.eval s = v) (hx : a.eval x = .slice ao n cap) (hn : ys.length = n) (hown : Own S w B 70 v xs) (hys : Arr S2 w ao ys) (hcc : ∀ (cs : List Value) (y : Api.Event), Rep.cells S2 w cs y → Rep.cells S w cs y) (hnil : ao = none → cap = 0)
    (hS : ∀ b, S b → b < w.heap.size ∧ v.ownBlock ≠ some b) (h63 : xs.length + n ≤ 1000000000) (hbase : B ≤ w.heap.size)
    (h : ∀ v' w', Own S w' B 70 v' (xs ++ ys) → w.grownBy w' v.ownBlock → wpList Try.prog ops Q rest (a.put o.dst v') w') : wpList Try.prog ops Q (o :: rest) a w := by
  subst hn
  exact wp_append hgd ho Try.underlying50 Try.infoRep50 (by decide) (by decide) hs hx hown hys hcc hnil hS (by unfold maxLen; omega) (by omega) hbase h
theorem Try.infoRep51 : (Try.prog.info? 58).map (fun i => (i.zero, i.size, i.bytes)) = some (some (.agg #[.int .i64 0, .int .i64 0]), Rep.sz Api.DPair, 16) := Try.info58
theorem Try.wp_app51 {S : Nat → Prop} {s x : Operand} (hgd : o.guard = none) (ho : o.op = .call { callee := .builtin .append, args := #[s, x], argTypes := #[51, 51] })
    {B : Nat} {v : Value} {xs : List Api.DPair} {y : Api.DPair} {cs : List Value} {w0 : World} {e' : TypeId} (hs : a.eval s = v) {g : Nat} (hx : a.eval x = .slice (some ⟨g, 0, none⟩) 1 1) (hw : w = w0.alloc (.cells cs.toArray e')) (hg : g = w0.heap.size) (hown : Own S w0 B 58 v xs) (hy : Rep.cells S w0 cs y)
    (hS : ∀ b, S b → b < w0.heap.size ∧ v.ownBlock ≠ some b) (h63 : xs.length + 1 ≤ 1000000000) (hbase : B ≤ w0.heap.size)
    (h : ∀ v' w', Own S w' B 58 v' (xs ++ [y]) → w0.grownBy w' v.ownBlock → wpList Try.prog ops Q rest (a.put o.dst v') w') : wpList Try.prog ops Q (o :: rest) a w :=
  wp_append1' hgd ho Try.underlying51 Try.infoRep51 (by decide) (by decide) hs hx hw hg hown hy hS (by unfold maxLen; omega) (by omega) hbase h
theorem Try.wp_appd51 {S : Nat → Prop} {s x : Operand} (hgd : o.guard = none) (ho : o.op = .call { callee := .builtin .append, args := #[s, x], argTypes := #[51, 51] })
    {B : Nat} {v : Value} {xs : List Api.DPair} {y : Api.DPair} {cs : List Value} {w0 : World} {e' : TypeId} (hs : a.eval s = v) {g : Nat} (hx : a.eval x = .slice (some ⟨g, 0, none⟩) 1 1) (hw : w = w0.alloc (.cells cs.toArray e')) (hg : g = w0.heap.size) (hown : Own S w0 B 58 v xs) (hy : Rep.cells S w0 cs y)
    (hS : ∀ b, S b → b < w0.heap.size ∧ v.ownBlock ≠ some b) (h63 : xs.length + 1 ≤ 1000000000) (hbase : B ≤ w0.heap.size)
    (h : ∀ v' w', Own S w' B 58 v' (xs ++ [y]) → w0.grownBy w' v.ownBlock → Stay w0 v v' → wpList Try.prog ops Q rest (a.put o.dst v') w') : wpList Try.prog ops Q (o :: rest) a w :=
  wp_append1s hgd ho Try.underlying51 Try.infoRep51 (by decide) (by decide) hs hx hw hg hown hy hS (by unfold maxLen; omega) (by omega) hbase h
theorem Try.flat51 {S S2 : Nat → Prop} {w : World} (cs : List Value) (y : Api.DPair) (h : Rep.cells S2 w cs y) : Rep.cells S w cs y := h
theorem Try.wp_apps51 {S S2 : Nat → Prop} {s x : Operand} (hgd : o.guard = none) (ho : o.op = .call { callee := .builtin .append, args := #[s, x], argTypes := #[51, 51] })
    {B : Nat} {v : Value} {xs ys : List Api.DPair} {ao : Option Addr} {n cap : Nat} (hs : a.eval s = v) (hx : a.eval x = .slice ao n cap) (hn : ys.length = n) (hown : Own S w B 58 v xs) (hys : Arr S2 w ao ys) (hcc : ∀ (cs : List Value) (y : Api.DPair), Rep.cells S2 w cs y → Rep.cells S w cs y) (hnil : ao = none → cap = 0)
    (hS : ∀ b, S b → b < w.heap.size ∧ v.ownBlock ≠ some b) (h63 : xs.length + n ≤ 1000000000) (hbase : B ≤ w.heap.size)
    (h : ∀ v' w', Own S w' B 58 v' (xs ++ ys) → w.grownBy w' v.ownBlock → wpList Try.prog ops Q rest (a.put o.dst v') w') : wpList Try.prog ops Q (o :: rest) a w := by
  subst hn
  exact wp_append hgd ho Try.underlying51 Try.infoRep51 (by decide) (by decide) hs hx hown hys hcc hnil hS (by unfold maxLen; omega) (by omega) hbase h
theorem Try.infoRep60 : (Try.prog.info? 28).map (fun i => (i.zero, i.size, i.bytes)) = some (some (.slice none 0 0), Rep.sz (List Int), 24) := Try.info28
theorem Try.wp_app60 {S : Nat → Prop} {s x : Operand} (hgd : o.guard = none) (ho : o.op = .call { callee := .builtin .append, args := #[s, x], argTypes := #[60, 60] })
    {B : Nat} {v : Value} {xs : List (List Int)} {y : (List Int)} {cs : List Value} {w0 : World} {e' : TypeId} (hs : a.eval s = v) {g : Nat} (hx : a.eval x = .slice (some ⟨g, 0, none⟩) 1 1) (hw : w = w0.alloc (.cells cs.toArray e')) (hg : g = w0.heap.size) (hown : Own S w0 B 28 v xs) (hy : Rep.cells S w0 cs y)
    (hS : ∀ b, S b → b < w0.heap.size ∧ v.ownBlock ≠ some b) (h63 : xs.length + 1 ≤ 1000000000) (hbase : B ≤ w0.heap.size)
    (h : ∀ v' w', Own S w' B 28 v' (xs ++ [y]) → w0.grownBy w' v.ownBlock → wpList Try.prog ops Q rest (a.put o.dst v') w') : wpList Try.prog ops Q (o :: rest) a w :=
  wp_append1' hgd ho Try.underlying60 Try.infoRep60 (by decide) (by decide) hs hx hw hg hown hy hS (by unfold maxLen; omega) (by omega) hbase h
theorem Try.wp_appd60 {S : Nat → Prop} {s x : Operand} (hgd : o.guard = none) (ho : o.op = .call { callee := .builtin .append, args := #[s, x], argTypes := #[60, 60] })
    {B : Nat} {v : Value} {xs : List (List Int)} {y : (List Int)} {cs : List Value} {w0 : World} {e' : TypeId} (hs : a.eval s = v) {g : Nat} (hx : a.eval x = .slice (some ⟨g, 0, none⟩) 1 1) (hw : w = w0.alloc (.cells cs.toArray e')) (hg : g = w0.heap.size) (hown : Own S w0 B 28 v xs) (hy : Rep.cells S w0 cs y)
    (hS : ∀ b, S b → b < w0.heap.size ∧ v.ownBlock ≠ some b) (h63 : xs.length + 1 ≤ 1000000000) (hbase : B ≤ w0.heap.size)
    (h : ∀ v' w', Own S w' B 28 v' (xs ++ [y]) → w0.grownBy w' v.ownBlock → Stay w0 v v' → wpList Try.prog ops Q rest (a.put o.dst v') w') : wpList Try.prog ops Q (o :: rest) a w :=
  wp_append1s hgd ho Try.underlying60 Try.infoRep60 (by decide) (by decide) hs hx hw hg hown hy hS (by unfold maxLen; omega) (by omega) hbase h
theorem Try.wp_apps60 {S S2 : Nat → Prop} {s x : Operand} (hgd : o.guard = none) (ho : o.op = .call { callee := .builtin .append, args := #[s, x], argTypes := #[60, 60] })
    {B : Nat} {v : Value} {xs ys : List (List Int)} {ao : Option Addr} {n cap : Nat} (hs : a.eval s = v) (hx : a.eval x = .slice ao n cap) (hn : ys.length = n) (hown : Own S w B 28 v xs) (hys : Arr S2 w ao ys) (hcc : ∀ (cs : List Value) (y : (List Int)), Rep.cells S2 w cs y → Rep.cells S w cs y) (hnil : ao = none → cap = 0)
    (hS : ∀ b, S b → b < w.heap.size ∧ v.ownBlock ≠ some b) (h63 : xs.length + n ≤ 1000000000) (hbase : B ≤ w.heap.size)
    (h : ∀ v' w', Own S w' B 28 v' (xs ++ ys) → w.grownBy w' v.ownBlock → wpList Try.prog ops Q rest (a.put o.dst v') w') : wpList Try.prog ops Q (o :: rest) a w := by
  subst hn
  exact wp_append hgd ho Try.underlying60 Try.infoRep60 (by decide) (by decide) hs hx hown hys hcc hnil hS (by unfold maxLen; omega) (by omega) hbase h
theorem Try.infoRep65 : (Try.prog.info? 4).map (fun i => (i.zero, i.size, i.bytes)) = some (some (.bool false), Rep.sz Bool, 1) := Try.info4
theorem Try.wp_app65 {S : Nat → Prop} {s x : Operand} (hgd : o.guard = none) (ho : o.op = .call { callee := .builtin .append, args := #[s, x], argTypes := #[65, 65] })
    {B : Nat} {v : Value} {xs : List Bool} {y : Bool} {cs : List Value} {w0 : World} {e' : TypeId} (hs : a.eval s = v) {g : Nat} (hx : a.eval x = .slice (some ⟨g, 0, none⟩) 1 1) (hw : w = w0.alloc (.cells cs.toArray e')) (hg : g = w0.heap.size) (hown : Own S w0 B 4 v xs) (hy : Rep.cells S w0 cs y)
    (hS : ∀ b, S b → b < w0.heap.size ∧ v.ownBlock ≠ some b) (h63 : xs.length + 1 ≤ 1000000000) (hbase : B ≤ w0.heap.size)
    (h : ∀ v' w', Own S w' B 4 v' (xs ++ [y]) → w0.grownBy w' v.ownBlock → wpList Try.prog ops Q rest (a.put o.dst v') w') : wpList Try.prog ops Q (o :: rest) a w :=
  wp_append1' hgd ho Try.underlying65 Try.infoRep65 (by decide) (by decide) hs hx hw hg hown hy hS (by unfold maxLen; omega) (by omega) hbase h
theorem Try.wp_appd65 {S : Nat → Prop} {s x : Operand} (hgd : o.guard = none) (ho : o.op = .call { callee := .builtin .append, args := #[s, x], argTypes := #[65, 65] })
    {B : Nat} {v : Value} {xs : List Bool} {y : Bool} {cs : List Value} {w0 : World} {e' : TypeId} (hs : a.eval s = v) {g : Nat} (hx : a.eval x = .slice (some ⟨g, 0, none⟩) 1 1) (hw : w = w0.alloc (.cells cs.toArray e')) (hg : g = w0.heap.size) (hown : Own S w0 B 4 v xs) (hy : Rep.cells S w0 cs y)
    (hS : ∀ b, S b → b < w0.heap.size ∧ v.ownBlock ≠ some b) (h63 : xs.length + 1 ≤ 1000000000) (hbase : B ≤ w0.heap.size)
    (h : ∀ v' w', Own S w' B 4 v' (xs ++ [y]) → w0.grownBy w' v.ownBlock → Stay w0 v v' → wpList Try.prog ops Q rest (a.put o.dst v') w') : wpList Try.prog ops Q (o :: rest) a w :=
  wp_append1s hgd ho Try.underlying65 Try.infoRep65 (by decide) (by decide) hs hx hw hg hown hy hS (by unfold maxLen; omega) (by omega) hbase h
theorem Try.flat65 {S S2 : Nat → Prop} {w : World} (cs : List Value) (y : Bool) (h : Rep.cells S2 w cs y) : Rep.cells S w cs y := h
theorem Try.wp_apps65 {S S2 : Nat → Prop} {s x : Operand} (hgd : o.guard = none) (ho : o.op = .call { callee := .builtin .append, args := #[s, x], argTypes := #[65, 65] })
    {B : Nat} {v : Value} {xs ys : List Bool} {ao : Option Addr} {n cap : Nat} (hs : a.eval s = v) (hx : a.eval x = .slice ao n cap) (hn : ys.length = n) (hown : Own S w B 4 v xs) (hys : Arr S2 w ao ys) (hcc : ∀ (cs : List Value) (y : Bool), Rep.cells S2 w cs y → Rep.cells S w cs y) (hnil : ao = none → cap = 0)
    (hS : ∀ b, S b → b < w.heap.size ∧ v.ownBlock ≠ some b) (h63 : xs.length + n ≤ 1000000000) (hbase : B ≤ w.heap.size)
    (h : ∀ v' w', Own S w' B 4 v' (xs ++ ys) → w.grownBy w' v.ownBlock → wpList Try.prog ops Q rest (a.put o.dst v') w') : wpList Try.prog ops Q (o :: rest) a w := by
  subst hn
  exact wp_append hgd ho Try.underlying65 Try.infoRep65 (by decide) (by decide) hs hx hown hys hcc hnil hS (by unfold maxLen; omega) (by omega) hbase h
end Go.Proofs.Ytffebdngmbbcoaa
