/- General: blocks that a call makes itself: rows made whole, rows grown by append; laws for the walk. No program is named here. -/
import Derived.Test.YtekofpigmggbbaaDoorQLib
import Derived.Laws.CopyOwn
import Derived.OwnWalk
import Derived.Laws.AppendOwnNone
import Derived.Deep.Light
import Derived.Laws.PanicsMore
import Derived.ArgAppend
import Derived.Laws.IdiomCopy
set_option linter.unusedVariables false
set_option linter.unusedSimpArgs false
namespace Go.Bk
open Go.RowKit

theorem flat_int {S S2 : Nat → Prop} {w : World} (cs : List Value) (y : Int) (h : Rep.cells S2 w cs y) : Rep.cells S w cs y := h
/-- Block g is a row of just these cells. -/
def Blk (w : World) (g : Nat) (e : TypeId) (cs : List Value) : Prop := w.heap[g]? = some (.cells cs.toArray e (0, 0))

theorem Blk.lt {w : World} {g : Nat} {e : TypeId} {cs : List Value} (h : Blk w g e cs) : g < w.heap.size := (Array.getElem?_eq_some_iff.1 h).1
theorem Blk.cell {w : World} {g : Nat} {e : TypeId} {cs : List Value} (h : Blk w g e cs) {j : Nat} {v : Value} (hj : cs[j]? = some v) : w.cell? ⟨g, j, none⟩ = some v := by
  unfold Blk at h
  simp [World.cell?, h, hj]
theorem Blk.frozen {w : World} {g : Nat} {e : TypeId} {cs : List Value} (h : Blk w g e cs) (j : Nat) : w.frozen? ⟨g, j, none⟩ = false := by
  unfold Blk at h
  simp [World.frozen?, h]
theorem Blk.set {w : World} {g : Nat} {e : TypeId} {cs : List Value} (h : Blk w g e cs) (j : Nat) (v : Value) : Blk (w.setCell ⟨g, j, none⟩ v) g e (cs.set j v) := by
  unfold Blk at *
  simp [World.setCell, Array.getElem?_modify, h]
theorem Blk.keep {w w' : World} {g : Nat} {e : TypeId} {cs : List Value} (hk : w'.heap[g]? = w.heap[g]?) (h : Blk w g e cs) : Blk w' g e cs := hk.trans h
theorem Blk.below {w w' : World} {g N : Nat} {e : TypeId} {cs : List Value} (h : Blk w g e cs) (hb : Below N w w') (hg : g < N) : Blk w' g e cs := (hb.block g hg).trans h

/-- A row of ints: as a list that is read. -/
theorem Blk.arr {w : World} {g : Nat} {e : TypeId} {zs : List Int} (h : Blk w g e (zs.map (Value.int .i64))) (hz : ∀ z ∈ zs, I64 z) (hl : zs.length ≤ maxLen) {S : Nat → Prop} (hS : S g) : Arr S w (some ⟨g, 0, none⟩) zs := by
  refine ⟨hl, .inr ⟨g, 0, rfl, hS, fun k x hk => ⟨[.int .i64 x], ⟨rfl, hz x (List.mem_of_getElem? hk)⟩, fun j hj => ?_⟩⟩⟩
  have hj0 : j = 0 := by have : j < 1 := hj; omega
  subst hj0
  show w.cell? ⟨g, 0 + k * 1 + 0, none⟩ = some _
  rw [show 0 + k * 1 + 0 = k by omega]
  exact h.cell (by simp [hk])

theorem Arr.take {α : Type} [Rep α] {S : Nat → Prop} {w : World} {a : Option Addr} {xs : List α} (h : Arr S w a xs) (n : Nat) : Arr S w a (xs.take n) := by
  refine ⟨by have := h.small; simp; omega, ?_⟩
  rcases h.lies with h | ⟨b, off, rfl, hb, hx⟩
  · subst h; exact .inl (by simp)
  · refine .inr ⟨b, off, rfl, hb, fun k x hk => hx k x ?_⟩
    rw [List.getElem?_take] at hk
    split at hk
    · exact hk
    · cases hk

theorem blk_new (w : World) (cs : List Value) (e : TypeId) : Blk (w.alloc (.cells cs.toArray e)) w.heap.size e cs := heap_alloc_new _ _

theorem blk_new' {w : World} {cs : List Value} {e : TypeId} {g : Nat} (hg : g = w.heap.size) : Blk (w.alloc (.cells cs.toArray e)) g e cs := hg ▸ blk_new w cs e

theorem owns_blk {w : World} {base g n : Nat} {e : TypeId} {xs : List Value} (h : w.ownsRow base e 1 (.slice (some ⟨g, 0, none⟩) n n) n xs) : Blk w g e xs := by
  obtain ⟨_, h | ⟨g', cap, cur, hv, _, hh, _, _, hc, ht⟩⟩ := h
  · simp at h
  · simp only [Value.slice.injEq, Option.some.injEq, Addr.mk.injEq] at hv
    obtain ⟨⟨rfl, _⟩, _, rfl⟩ := hv
    unfold Blk
    rw [hh, ← ht, List.take_of_length_le (by simp [hc])]

section
variable {P : Program} {ops : Array Oper} {Q : Exit → Act → World → Prop} {a : Act} {w : World} {rest : List Oper} {o : Oper}

/-- 'make([]T, n)', elements of one cell. -/
theorem wp_make {l c : Operand} {t : TypeId} {e : TypeId} {z : Value} {bytes : Nat} (hg : o.guard = none) (hop : o.op = Op.makeSlice t l c) (h1 : P.underlying t = some (.slice e))
    (h2 : (P.info? e).map (fun i => (i.zero, i.size, i.bytes)) = some (some z, 1, bytes)) (hz1 : z.cells = #[z])
    {n : Nat} (hl : a.eval l = .int .i64 (n : Int)) (hc : a.eval c = .int .i64 (n : Int)) (hn : bytes * n ≤ 281474976710656) (hm : n ≤ maxLen)
    (hK : ∀ w', Blk w' w.heap.size e (List.replicate n z) → Below w.heap.size w w' → w.heap.size < w'.heap.size → wpList P ops Q rest (a.put o.dst (.slice (some ⟨w.heap.size, 0, none⟩) n n)) w') :
    wpList P ops Q (o :: rest) a w := by
  obtain ⟨i, hi, hz, hs, hb⟩ := info_parts h2
  refine wpList_make_full w hg l c t hop w.heap.size e i z 1 h1 hi hz hs .i64 .i64 _ _ n hl hc rfl rfl (by rw [hb]; exact hn) hm (Nat.le_refl _) fun w' hown hgr => ?_
  have hblk := owns_blk hown
  have e1 : (madeCells z.cells (n * 1)).toList = List.replicate n z := by
    rw [hz1]
    apply List.ext_getElem
    · simp [madeCells]
    · intro i h1 h2
      simp [madeCells, Nat.mod_one]
  rw [e1] at hblk
  exact hK w' hblk ((Below.refl _ _).grown hgr (Nat.le_refl _) (by simp)) hblk.lt

end

/-- The blocks that were made between two worlds. -/
def Fresh (w w' : World) (b : Nat) : Prop := w.heap.size ≤ b ∧ b < w'.heap.size

/-! ### A region that draws its order, whose callees make memory of their own and write nothing that was there -/

/-- A world that the world w may have become. -/
structure Drift (w : World) where
  val : World
  below : Below w.heap.size w val
instance {w : World} : Nonempty (Drift w) := ⟨⟨w, Below.refl _ _⟩⟩

theorem Drift.cell {w : World} (d : Drift w) (b o : Nat) (h : b < w.heap.size) : d.val.cell? ⟨b, o, none⟩ = w.cell? ⟨b, o, none⟩ := d.below.cell (p := ⟨b, o, none⟩) h

theorem wp_region_drift_lit {P : Program} {id : Nat} {Q : Exit → Act → World → Prop} {a : Act} {w : World} {l : List Oper} (hm : P.follows .mixedOrders = true) (hB : Region.lexB .any l.toArray = true)
    (h : (∀ (d : Drift w) (b o : Nat), b < w.heap.size → d.val.cell? ⟨b, o, none⟩ = w.cell? ⟨b, o, none⟩) →
      wpQuiet P l.toArray (fun w' => ∃ d : Drift w, w' = d.val) (fun a' => ∀ w', (∃ d : Drift w, w' = d.val) → Q .normal a' w') l a) : (Code.region id l.toArray true).wp P Q a w :=
  wp_region_quiet (C := fun w' => ∃ d : Drift w, w' = d.val) hm hB ⟨⟨_, (Below.refl _ w).drew⟩, rfl⟩ (by simpa using h (fun d b o hb => d.cell b o hb))

theorem drift_of {P : Program} {f : FuncId} {args : Array Value} {w : World} {d : Drift w} {v : Value}
    (h : Calls P f args d.val fun e w' => e = .returned v ∧ Below d.val.heap.size d.val w') : Calls P f args d.val fun e w'' => e = .returned v ∧ ∃ d' : Drift w, w'' = d'.val :=
  h.mono fun _ w'' ⟨he, hb⟩ => ⟨he, ⟨w'', d.below.trans (hb.mono d.below.size)⟩, rfl⟩

/-! ### A slice that the call itself grows by append -/

/-- v owns the list xs: nil, or a row of its own from block B on. -/
def Own {α : Type} [Rep α] (S : Nat → Prop) (w : World) (B : Nat) (e : TypeId) (v : Value) (xs : List α) : Prop :=
  ∃ css : List (List Value), css.length = xs.length ∧ (∀ (k : Nat) (x : α) (cs : List Value), xs[k]? = some x → css[k]? = some cs → Rep.cells S w cs x) ∧ w.ownsRow B e (Rep.sz α) v xs.length css.flatten

section
variable {α : Type} [Rep α] {S : Nat → Prop} {w w' : World} {B : Nat} {e : TypeId} {v : Value} {xs : List α}

theorem Own.nil (S : Nat → Prop) (w : World) (B : Nat) (e : TypeId) : Own S w B e (.slice none 0 0) ([] : List α) :=
  ⟨[], rfl, fun k x cs h => by simp at h, World.ownsRow_nil _ _ _ _⟩

theorem Own.lt (h : Own S w B e v xs) : ∀ k, v.ownBlock = some k → B ≤ k ∧ k < w.heap.size := by
  obtain ⟨css, _, _, ho⟩ := h
  exact ho.lt

theorem Own.keep {row : Option Nat} (h : Own S w B e v xs) (hg : w.grownBy w' row) (hne : v.ownBlock = none ∨ v.ownBlock ≠ row) (hS : ∀ b, S b → w'.heap[b]? = w.heap[b]?) : Own S w' B e v xs := by
  obtain ⟨css, h1, h2, ho⟩ := h
  exact ⟨css, h1, fun k x cs hx hc => Rep.keep hS (h2 k x cs hx hc), ho.kept hg hne⟩

theorem grownBy_of_below (hb : Below w.heap.size w w') : w.grownBy w' none :=
  ⟨hb.os, hb.tape, hb.output, hb.size, fun k hk _ => hb.block k hk⟩

theorem Own.below (h : Own S w B e v xs) (hb : Below w.heap.size w w') (hS : ∀ b, S b → b < w.heap.size) : Own S w' B e v xs :=
  h.keep (grownBy_of_below hb) (by cases hv : v.ownBlock <;> simp) (fun b hb' => hb.block b (hS b hb'))

theorem Own.alloc (h : Own S w B e v xs) (o : Obj) (hS : ∀ b, S b → b < w.heap.size) : Own S (w.alloc o) B e v xs :=
  h.below ((Below.refl _ _).alloc (Nat.le_refl _) o) hS

theorem flatten_get {css : List (List Value)} {sz : Nat} (h : ∀ cs ∈ css, cs.length = sz) : ∀ (k j : Nat) (cs : List Value), css[k]? = some cs → j < sz → css.flatten[k * sz + j]? = cs[j]? := by
  induction css with
  | nil => intro k j cs hk; simp at hk
  | cons c css ih =>
    intro k j cs hk hj
    have hc : c.length = sz := h c (List.mem_cons_self ..)
    cases k with
    | zero =>
      simp at hk
      subst hk
      rw [List.flatten_cons, List.getElem?_append_left (by omega)]
      simp
    | succ k =>
      rw [List.flatten_cons, List.getElem?_append_right (by rw [Nat.add_mul]; omega)]
      rw [show (k + 1) * sz + j - c.length = k * sz + j by rw [Nat.add_mul]; omega]
      exact ih (fun x hx => h x (List.mem_cons_of_mem _ hx)) k j cs (by simpa using hk) hj

theorem Own.sizes {css : List (List Value)} (h1 : css.length = xs.length) (h2 : ∀ (k : Nat) (x : α) (cs : List Value), xs[k]? = some x → css[k]? = some cs → Rep.cells S w cs x) : ∀ cs ∈ css, cs.length = Rep.sz α := by
  intro cs hc
  obtain ⟨k, hk⟩ := List.getElem?_of_mem hc
  have hlt : k < xs.length := by rw [← h1]; exact (List.getElem?_eq_some_iff.1 hk).1
  exact Rep.len (h2 k _ cs (List.getElem?_eq_getElem hlt) hk)

/-- The value's form, and the list that is read at it. -/
theorem Own.arr (h : Own S w B e v xs) : ∃ a cap, v = .slice a xs.length cap ∧ xs.length ≤ cap ∧ (a = none → cap = 0) ∧ Arr (fun b => S b ∨ (B ≤ b ∧ b < w.heap.size)) w a xs := by
  obtain ⟨css, h1, h2, ho⟩ := h
  have hsz := Own.sizes h1 h2
  obtain ⟨hl, ⟨rfl, hn⟩ | ⟨g, cap, cur, rfl, hg, hh, hle, hm, hcs, ht⟩⟩ := ho
  · have : xs = [] := List.eq_nil_of_length_eq_zero hn
    subst this
    exact ⟨none, 0, rfl, by simp, fun _ => rfl, Arr.nil _ _ _⟩
  · refine ⟨_, _, rfl, hle, by simp, by omega, ?_⟩
    by_cases hx : xs = []
    · exact .inl hx
    · refine .inr ⟨g, 0, rfl, .inr ⟨hg, (Array.getElem?_eq_some_iff.1 hh).1⟩, fun k x hk => ?_⟩
      have hlt : k < xs.length := (List.getElem?_eq_some_iff.1 hk).1
      have hck : css[k]? = some (css[k]'(by omega)) := List.getElem?_eq_getElem (by omega)
      have hc := h2 k x _ hk hck
      refine ⟨css[k]'(by omega), Rep.mono (fun b hb => .inl hb) hc, fun j hj => ?_⟩
      have hf := flatten_get hsz k j _ hck hj
      rw [← hf]
      have hlt2 : k * Rep.sz α + j < xs.length * Rep.sz α := by
        have : (k + 1) * Rep.sz α ≤ xs.length * Rep.sz α := Nat.mul_le_mul_right _ (by omega)
        rw [Nat.add_mul] at this
        omega
      rw [← ht, List.getElem?_take, if_pos hlt2]
      rw [show 0 + k * Rep.sz α + j = k * Rep.sz α + j by omega]
      have : w.heap[(⟨g, k * Rep.sz α + j, none⟩ : Addr).block]? = some (.cells cur e (0, 0)) := hh
      simp [World.cell?, hh]

/-- The longer list. -/
theorem Own.more {w0 : World} {css dss : List (List Value)} {ys : List α} (h1 : css.length = xs.length) (h2 : ∀ (k : Nat) (x : α) (cs : List Value), xs[k]? = some x → css[k]? = some cs → Rep.cells S w0 cs x)
    (g1 : dss.length = ys.length) (g2 : ∀ (k : Nat) (y : α) (cs : List Value), ys[k]? = some y → dss[k]? = some cs → Rep.cells S w0 cs y) (hS : ∀ b, S b → w.heap[b]? = w0.heap[b]?)
    (ho : w.ownsRow B e (Rep.sz α) v (xs.length + ys.length) (css.flatten ++ dss.flatten)) : Own S w B e v (xs ++ ys) := by
  refine ⟨css ++ dss, by simp [h1, g1], fun k x cs hx hc => Rep.keep hS ?_, by simpa using ho⟩
  by_cases hk : k < xs.length
  · rw [List.getElem?_append_left hk] at hx
    rw [List.getElem?_append_left (by omega)] at hc
    exact h2 k x cs hx hc
  · rw [List.getElem?_append_right (by omega)] at hx
    rw [List.getElem?_append_right (by omega), h1] at hc
    exact g2 _ x cs hx hc
end

section
variable {P : Program} {ops : Array Oper} {Q : Exit → Act → World → Prop} {a : Act} {w : World} {rest : List Oper} {o : Oper}

/-- 'append(s, x...)': what is appended lies at 'ao', element by element. -/
theorem wp_append_raw {α : Type} [Rep α] {S : Nat → Prop} {s x : Operand} {t e : TypeId} {z : Value} {bytes : Nat} (hgd : o.guard = none)
    (ho : o.op = .call { callee := .builtin .append, args := #[s, x], argTypes := #[t, t] }) (ht : P.underlying t = some (.slice e))
    (hi : (P.info? e).map (fun i => (i.zero, i.size, i.bytes)) = some (some z, Rep.sz α, bytes)) (hz : z.cells.size = Rep.sz α) (hp : 0 < Rep.sz α)
    {B : Nat} {v : Value} {xs ys : List α} {ao : Option Addr} {cap : Nat} (hs : a.eval s = v) (hown : Own S w B e v xs) (hx : a.eval x = .slice ao ys.length cap) (hnil : ao = none → cap = 0 ∧ ys = [])
    (hel : ∀ ad, ao = some ad → ∀ (k : Nat) (y : α), ys[k]? = some y → ∃ cs, Rep.cells S w cs y ∧ ∀ j, j < Rep.sz α → w.cell? (ad.add (k * Rep.sz α + j)) = cs[j]?)
    (hS : ∀ b, S b → b < w.heap.size ∧ v.ownBlock ≠ some b) (h63 : xs.length + ys.length ≤ maxLen) (hbytes : (xs.length + ys.length) * bytes ≤ 140737488355328) (hbase : B ≤ w.heap.size)
    (h : ∀ v' w', Own S w' B e v' (xs ++ ys) → w.grownBy w' v.ownBlock → wpList P ops Q rest (a.put o.dst v') w') : wpList P ops Q (o :: rest) a w := by
  obtain ⟨i, hi, hz0, hz1, hz2⟩ := info_parts hi
  obtain ⟨css, h1, h2, hrow⟩ := hown
  cases ao with
  | none =>
    obtain ⟨rfl, rfl⟩ := hnil rfl
    refine wpList_append_own_none hgd s x t ho B e i (Rep.sz α) ht hi v xs.length css.flatten hs hrow (by simpa using hx) ?_
    exact h v w ⟨css, by simpa using h1, by simpa using h2, by simpa using hrow⟩ (World.grownBy.refl _ _)
  | some ad =>
    obtain ⟨f, hf⟩ := Go.Deep.choose_lt (α := List Value) (n := ys.length) (p := fun k cs => ∀ y, ys[k]? = some y → Rep.cells S w cs y ∧ ∀ j, j < Rep.sz α → w.cell? (ad.add (k * Rep.sz α + j)) = cs[j]?) (fun k hk => by
      obtain ⟨cs, hc, hj⟩ := hel ad rfl k _ (List.getElem?_eq_getElem hk)
      refine ⟨cs, fun y hy => ?_⟩
      obtain rfl := Option.some.inj ((List.getElem?_eq_getElem hk).symm.trans hy)
      exact ⟨hc, hj⟩)
    obtain ⟨dss, hdss⟩ : ∃ dss, dss = (List.range ys.length).map f := ⟨_, rfl⟩
    have g1 : dss.length = ys.length := by simp [hdss]
    have g2 : ∀ (k : Nat) (y : α) (cs : List Value), ys[k]? = some y → dss[k]? = some cs → Rep.cells S w cs y := by
      intro k y cs hy hc
      have hk : k < ys.length := (List.getElem?_eq_some_iff.1 hy).1
      have : cs = f k := by rw [hdss] at hc; simp [hk] at hc; exact hc.symm
      rw [this]
      exact (hf k hk y hy).1
    have hsz := Own.sizes g1 g2
    have hfl : dss.flatten.length = ys.length * Rep.sz α := by
      rw [← g1]
      clear g1 g2 hdss
      induction dss with
      | nil => simp
      | cons c r ih =>
        rw [List.flatten_cons, List.length_append, ih (fun x hx => hsz x (List.mem_cons_of_mem _ hx)), hsz c (List.mem_cons_self ..), List.length_cons, Nat.add_mul]
        omega
    refine wpList_append_own w hgd s x t ho B e i z (Rep.sz α) bytes ht hi hz0 hz1 hz2 hz hp v xs.length css.flatten hs hrow ad ys.length cap dss.flatten hx hfl ?_ ?_ h63 hbytes hbase fun v' w' ho' hg _ => ?_
    · intro j u hu
      have hj : j < ys.length * Rep.sz α := by rw [← hfl]; exact (List.getElem?_eq_some_iff.1 hu).1
      have hdm := Nat.div_add_mod j (Rep.sz α)
      have hmod := Nat.mod_lt j hp
      have hdiv : j / Rep.sz α < ys.length := by rw [Nat.div_lt_iff_lt_mul hp]; exact hj
      have hck : dss[j / Rep.sz α]? = some (dss[j / Rep.sz α]'(by omega)) := List.getElem?_eq_getElem (by omega)
      have hfg := flatten_get hsz (j / Rep.sz α) (j % Rep.sz α) _ hck hmod
      have hjj : j / Rep.sz α * Rep.sz α + j % Rep.sz α = j := by rw [Nat.mul_comm]; exact hdm
      have hcell := (hf (j / Rep.sz α) hdiv _ (List.getElem?_eq_getElem hdiv)).2 (j % Rep.sz α) hmod
      rw [hjj] at hfg hcell
      rw [hcell, ← hu, hfg]
      congr 1
      simp [hdss]
    · intro u hu
      obtain ⟨cs, hcs, hu'⟩ := List.mem_flatten.1 hu
      obtain ⟨k, hk⟩ := List.getElem?_of_mem hcs
      have hlt : k < ys.length := by rw [← g1]; exact (List.getElem?_eq_some_iff.1 hk).1
      exact Rep.one (g2 k _ cs (List.getElem?_eq_getElem hlt) hk) u hu'
    · refine h v' w' (Own.more h1 h2 g1 g2 (fun b hb => ?_) ho') hg
      exact hg.block b (hS b hb).1 (fun e => (hS b hb).2 e.symm)

/-- 'append(s, x...)': what is appended lies in a row that is read. -/
theorem wp_append {α : Type} [Rep α] {S S2 : Nat → Prop} {s x : Operand} {t e : TypeId} {z : Value} {bytes : Nat} (hgd : o.guard = none)
    (ho : o.op = .call { callee := .builtin .append, args := #[s, x], argTypes := #[t, t] }) (ht : P.underlying t = some (.slice e))
    (hi : (P.info? e).map (fun i => (i.zero, i.size, i.bytes)) = some (some z, Rep.sz α, bytes)) (hz : z.cells.size = Rep.sz α) (hp : 0 < Rep.sz α)
    {B : Nat} {v : Value} {xs ys : List α} {ao : Option Addr} {cap : Nat} (hs : a.eval s = v) (hx : a.eval x = .slice ao ys.length cap) (hown : Own S w B e v xs) (hys : Arr S2 w ao ys) (hcc : ∀ (cs : List Value) (y : α), Rep.cells S2 w cs y → Rep.cells S w cs y) (hnil : ao = none → cap = 0)
    (hS : ∀ b, S b → b < w.heap.size ∧ v.ownBlock ≠ some b) (h63 : xs.length + ys.length ≤ maxLen) (hbytes : (xs.length + ys.length) * bytes ≤ 140737488355328) (hbase : B ≤ w.heap.size)
    (h : ∀ v' w', Own S w' B e v' (xs ++ ys) → w.grownBy w' v.ownBlock → wpList P ops Q rest (a.put o.dst v') w') : wpList P ops Q (o :: rest) a w := by
  refine wp_append_raw hgd ho ht hi hz hp hs hown hx (fun h => ⟨hnil h, ?_⟩) (fun ad had k y hy => ?_) hS h63 hbytes hbase h
  · rcases hys.lies with hy | ⟨_, _, h', _⟩
    · exact hy
    · rw [h] at h'; cases h'
  · obtain ⟨b, off, cs, he, _, hc, hj⟩ := hys.at hy
    obtain rfl := Option.some.inj (had.symm.trans he)
    exact ⟨cs, hcc cs y hc, fun j hjl => by rw [Addr.add_lit, ← Nat.add_assoc]; exact hj j hjl⟩

/-- 'append(s, y)': one element, in the box that the statement has just laid. -/
theorem wp_append1 {α : Type} [Rep α] {S : Nat → Prop} {s x : Operand} {t e : TypeId} {z : Value} {bytes : Nat} (hgd : o.guard = none)
    (ho : o.op = .call { callee := .builtin .append, args := #[s, x], argTypes := #[t, t] }) (ht : P.underlying t = some (.slice e))
    (hi : (P.info? e).map (fun i => (i.zero, i.size, i.bytes)) = some (some z, Rep.sz α, bytes)) (hz : z.cells.size = Rep.sz α) (hp : 0 < Rep.sz α)
    {B : Nat} {v : Value} {xs : List α} {y : α} {cs : List Value} {w0 : World} {e' : TypeId} (hs : a.eval s = v) (hx : a.eval x = .slice (some ⟨w0.heap.size, 0, none⟩) 1 1) (hw : w = w0.alloc (.cells cs.toArray e')) (hown : Own S w0 B e v xs) (hy : Rep.cells S w0 cs y)
    (hS : ∀ b, S b → b < w0.heap.size ∧ v.ownBlock ≠ some b) (h63 : xs.length + 1 ≤ maxLen) (hbytes : (xs.length + 1) * bytes ≤ 140737488355328) (hbase : B ≤ w0.heap.size)
    (h : ∀ v' w', Own S w' B e v' (xs ++ [y]) → w0.grownBy w' v.ownBlock → wpList P ops Q rest (a.put o.dst v') w') : wpList P ops Q (o :: rest) a w := by
  subst hw
  have hal : ∀ b, b < w0.heap.size → (w0.alloc (.cells cs.toArray e')).heap[b]? = w0.heap[b]? := fun b hb => Below.heap_alloc _ _ _ hb
  refine wp_append_raw (S := S) (ys := [y]) hgd ho ht hi hz hp hs (hown.alloc _ (fun b hb => (hS b hb).1)) hx (fun h => by cases h) (fun ad had k y' hy' => ?_) (fun b hb => ⟨by have := (hS b hb).1; simp; omega, (hS b hb).2⟩) h63 hbytes (by simp; omega) fun v' w' h1 h2 => h v' w' h1 ?_
  · obtain rfl := Option.some.inj had
    have hk : k = 0 := by
      have := (List.getElem?_eq_some_iff.1 hy').1; simp at this; exact this
    subst hk
    simp at hy'
    subst hy'
    refine ⟨cs, Rep.keep (fun b hb => hal b (hS b hb).1) hy, fun j hj => ?_⟩
    rw [Addr.add_lit]
    have : (w0.alloc (.cells cs.toArray e')).heap[w0.heap.size]? = some (.cells cs.toArray e' (0, 0)) := heap_alloc_new _ _
    simp only [World.cell?]
    rw [this]
    simp
  · refine ⟨h2.os, h2.tape, h2.output, Nat.le_trans (by simp) h2.size, fun k hk hne => ?_⟩
    rw [h2.block k (by simp; omega) hne]
    exact hal k hk
/-- Likewise, the box's number told in other words. -/
theorem wp_append1' {α : Type} [Rep α] {S : Nat → Prop} {s x : Operand} {t e : TypeId} {z : Value} {bytes : Nat} (hgd : o.guard = none)
    (ho : o.op = .call { callee := .builtin .append, args := #[s, x], argTypes := #[t, t] }) (ht : P.underlying t = some (.slice e))
    (hi : (P.info? e).map (fun i => (i.zero, i.size, i.bytes)) = some (some z, Rep.sz α, bytes)) (hz : z.cells.size = Rep.sz α) (hp : 0 < Rep.sz α)
    {B : Nat} {v : Value} {xs : List α} {y : α} {cs : List Value} {w0 : World} {e' : TypeId} (hs : a.eval s = v) {g : Nat} (hx : a.eval x = .slice (some ⟨g, 0, none⟩) 1 1) (hw : w = w0.alloc (.cells cs.toArray e')) (hg : g = w0.heap.size) (hown : Own S w0 B e v xs) (hy : Rep.cells S w0 cs y)
    (hS : ∀ b, S b → b < w0.heap.size ∧ v.ownBlock ≠ some b) (h63 : xs.length + 1 ≤ maxLen) (hbytes : (xs.length + 1) * bytes ≤ 140737488355328) (hbase : B ≤ w0.heap.size)
    (h : ∀ v' w', Own S w' B e v' (xs ++ [y]) → w0.grownBy w' v.ownBlock → wpList P ops Q rest (a.put o.dst v') w') : wpList P ops Q (o :: rest) a w :=
  wp_append1 hgd ho ht hi hz hp hs (hg ▸ hx) hw hown hy hS h63 hbytes hbase h

end
end Go.Bk

/- General, more: a cell of a row of one's own is read and stored. No program is named here. -/
namespace Go.Bk
open Go.RowKit

section
variable {α : Type} [Rep α] {S : Nat → Prop} {w w' : World} {B : Nat} {e : TypeId} {v : Value} {xs : List α}

end

def boolsV (bs : List Bool) : List Value := bs.map Value.bool
theorem boolsV_set (bs : List Bool) (k : Nat) (b : Bool) : (boolsV bs).set k (.bool b) = boolsV (bs.set k b) := by simp [boolsV, List.map_set]
theorem boolsV_get {bs : List Bool} {k : Nat} {b : Bool} (h : bs[k]? = some b) : (boolsV bs)[k]? = some (.bool b) := by simp [boolsV, h]
section
variable {P : Program} {ops : Array Oper} {Q : Exit → Act → World → Prop} {a : Act} {w : World} {rest : List Oper} {o : Oper}
end
end Go.Bk

/- General: several slices that a call grows, apart from each other. No program is named here. -/
namespace Go.Bk
open Go.RowKit

/-- Where a slice's row is after it was grown: where it was, or in a block that is new. -/
def Stay (w : World) (v v' : Value) : Prop := ∀ k, v'.ownBlock = some k → v.ownBlock = some k ∨ w.heap.size ≤ k
def Apart (u v : Value) : Prop := ∀ k, u.ownBlock = some k → v.ownBlock ≠ some k
theorem Apart.symm {u v : Value} (h : Apart u v) : Apart v u := fun k h1 h2 => h k h2 h1
theorem Apart.nil_left (v : Value) (n c : Nat) : Apart (.slice none n c) v := fun k h => by cases h
theorem Apart.moved {w : World} {u v v' : Value} (h : Apart v u) (hs : Stay w v v') (hu : ∀ k, u.ownBlock = some k → k < w.heap.size) : Apart v' u := fun k hk he => by
  rcases hs k hk with h1 | h1
  · exact h k h1 he
  · have := hu k he; omega
theorem Own.apart {α : Type} [Rep α] {S : Nat → Prop} {w w' : World} {B : Nat} {e : TypeId} {u v : Value} {xs : List α} (h : Own S w B e u xs) (hg : w.grownBy w' v.ownBlock) (ha : Apart v u) (hS : ∀ b, S b → w'.heap[b]? = w.heap[b]?) : Own S w' B e u xs :=
  h.keep hg (by
    cases hu : u.ownBlock with
    | none => exact .inl rfl
    | some k => right; intro e; exact ha k e.symm hu) hS

theorem Own.mono {α : Type} [Rep α] {S S' : Nat → Prop} {w : World} {B : Nat} {e : TypeId} {v : Value} {xs : List α} (h : Own S w B e v xs) (hs : ∀ b, S b → S' b) : Own S' w B e v xs := by
  obtain ⟨css, h1, h2, ho⟩ := h
  exact ⟨css, h1, fun k x cs hx hc => Rep.mono hs (h2 k x cs hx hc), ho⟩
theorem cell_grown {w w' : World} {r : Option Nat} (hg : w.grownBy w' r) {b o : Nat} (hb : b < w.heap.size) (hne : r ≠ some b) : w'.cell? ⟨b, o, none⟩ = w.cell? ⟨b, o, none⟩ :=
  World.cell?_of_block (w := w) (hg.block b hb (fun e => hne e.symm))
theorem frozen_grown {w w' : World} {r : Option Nat} (hg : w.grownBy w' r) {b o : Nat} (hb : b < w.heap.size) (hne : r ≠ some b) : w'.frozen? ⟨b, o, none⟩ = w.frozen? ⟨b, o, none⟩ :=
  World.frozen?_of_block (w := w) (hg.block b hb (fun e => hne e.symm))
theorem append_block {P : Program} {w : World} {base : Nat} {t ty e : TypeId} {i : TypeInfo} {z : Value} (ht : P.underlying t = some (.slice e)) (hi : P.info? e = some i) (hz : i.zero = some z)
    {v : Value} {n : Nat} {xs : List Value} (hown : w.ownsRow base e i.size v n xs) {a : Addr} {m c : Nat} {news : List Value} (hl : news.length = m * i.size) (hnews : ∀ j u, news[j]? = some u → w.cell? (a.add j) = some u) (h1 : ∀ u ∈ news, u.oneCell' = true)
    (h0 : 0 < m) (h63 : n + m ≤ maxLen) (hbytes : (n + m) * i.bytes ≤ 140737488355328) {v' : Value} {w' : World} (hr : (Builtin.append_ #[t, t] ty #[v, .slice (some a) m c]).run P w = .ok v' w') : Stay w v v' := by
  have hsmall : n + m ≤ 9223372036854775807 := by simp only [maxLen] at h63; omega
  rcases hown.2 with ⟨rfl, rfl⟩ | ⟨g, cap, cur, rfl, hbg, hg, hnc, hcm, hcs, htake⟩
  · have h2 := run_append_nil (P := P) w t ty e i z ht hi hz a m c news hl hnews h0 (by omega) (by have hb := hbytes; simp only [Nat.zero_add] at hb; omega)
    rw [hr] at h2
    injection h2 with h2 _
    subst h2
    intro k hk
    simp [Value.ownBlock] at hk
    right; omega
  · by_cases hroom : n + m ≤ cap
    · have hfit : n * i.size + news.length ≤ cur.size := by rw [hl, hcs, ← Nat.add_mul]; exact Nat.mul_le_mul_right _ hroom
      have h2 := run_append_room (P := P) w t ty e i ht hi g n cap cur hg a m c news hl hnews h1 hroom hfit
      rw [hr] at h2
      injection h2 with h2 _
      subst h2
      intro k hk
      exact .inl hk
    · have holds : ∀ j u, xs[j]? = some u → w.cell? ((⟨g, 0, none⟩ : Addr).add j) = some u := hown.cells (g := g) rfl
      have h2 := run_append_grow (P := P) w t ty e i z ht hi hz ⟨g, 0, none⟩ n cap xs hown.1 holds a m c news hl hnews (by omega) (by omega) (growslice_fits (by omega) hbytes)
      rw [hr] at h2
      injection h2 with h2 _
      subst h2
      intro k hk
      simp [Value.ownBlock] at hk
      right; omega

section
variable {P : Program} {ops : Array Oper} {Q : Exit → Act → World → Prop} {a : Act} {w : World} {rest : List Oper} {o : Oper}
/-- 'append(s, y)', and where the row is behind it. -/
theorem wp_append1s {α : Type} [Rep α] {S : Nat → Prop} {s x : Operand} {t e : TypeId} {z : Value} {bytes : Nat} (hgd : o.guard = none)
    (ho : o.op = .call { callee := .builtin .append, args := #[s, x], argTypes := #[t, t] }) (ht : P.underlying t = some (.slice e))
    (hi : (P.info? e).map (fun i => (i.zero, i.size, i.bytes)) = some (some z, Rep.sz α, bytes)) (hz : z.cells.size = Rep.sz α) (hp : 0 < Rep.sz α)
    {B : Nat} {v : Value} {xs : List α} {y : α} {cs : List Value} {w0 : World} {e' : TypeId} (hs : a.eval s = v) {g : Nat} (hx : a.eval x = .slice (some ⟨g, 0, none⟩) 1 1) (hw : w = w0.alloc (.cells cs.toArray e')) (hg : g = w0.heap.size) (hown : Own S w0 B e v xs) (hy : Rep.cells S w0 cs y)
    (hS : ∀ b, S b → b < w0.heap.size ∧ v.ownBlock ≠ some b) (h63 : xs.length + 1 ≤ maxLen) (hbytes : (xs.length + 1) * bytes ≤ 140737488355328) (hbase : B ≤ w0.heap.size)
    (h : ∀ v' w', Own S w' B e v' (xs ++ [y]) → w0.grownBy w' v.ownBlock → Stay w0 v v' → wpList P ops Q rest (a.put o.dst v') w') : wpList P ops Q (o :: rest) a w := by
  subst hw hg
  have hal : ∀ b, b < w0.heap.size → (w0.alloc (.cells cs.toArray e')).heap[b]? = w0.heap[b]? := fun b hb => Below.heap_alloc _ _ _ hb
  obtain ⟨i, hi, hz0, hz1, hz2⟩ := info_parts hi
  obtain ⟨css, h1, h2, hrow⟩ := hown.alloc (.cells cs.toArray e') (fun b hb => (hS b hb).1)
  have hcl : cs.length = Rep.sz α := Rep.len hy
  have hcell : ∀ j u, cs[j]? = some u → (w0.alloc (.cells cs.toArray e')).cell? ((⟨w0.heap.size, 0, none⟩ : Addr).add j) = some u := fun j u hu => by
    rw [Addr.add_lit, Nat.zero_add]
    have : (w0.alloc (.cells cs.toArray e')).heap[w0.heap.size]? = some (.cells cs.toArray e' (0, 0)) := heap_alloc_new _ _
    simp only [World.cell?]
    rw [this]
    simpa using hu
  have hone : ∀ u ∈ cs, u.oneCell' = true := Rep.one hy
  obtain ⟨v', w', hr, ho', hgr, -⟩ := run_append_own (P := P) (w0.alloc (.cells cs.toArray e')) B t o.type e i z (Rep.sz α) bytes ht hi hz0 hz1 hz2 hz hp v xs.length css.flatten hrow ⟨w0.heap.size, 0, none⟩ 1 1 cs (by simpa using hcl) hcell hone h63 hbytes (by simp; omega)
  have hst := append_block (P := P) ht hi hz0 (base := B) (hz1 ▸ hrow) (by rw [hz1]; simpa using hcl) hcell hone (by omega) h63 (by rw [hz2]; exact hbytes) hr
  refine wpList_plain hgd fun K hK => ?_
  unfold Oper.wp execOp
  simp only [ho, resolve, invoke, builtin, Sem.run_bind, Sem.run_pure, Result.andThen_ok, List.map_toArray, List.map_cons, List.map_nil, hs, hx, hr]
  refine hK _ _ (h v' w' ?_ ?_ ?_)
  · refine Own.more (S := S) (w0 := w0.alloc (.cells cs.toArray e')) (dss := [cs]) (ys := [y]) h1 h2 rfl (fun k x cs' hx hc => ?_) (fun b hb => ?_) (by simpa using ho')
    · have hk : k = 0 := by have := (List.getElem?_eq_some_iff.1 hx).1; simp at this; exact this
      subst hk
      simp at hx hc
      subst hx hc
      exact Rep.keep (fun b hb => hal b (hS b hb).1) hy
    · exact hgr.block b (by have := (hS b hb).1; simp; omega) (fun e => (hS b hb).2 e.symm)
  · refine ⟨hgr.os, hgr.tape, hgr.output, Nat.le_trans (by simp) hgr.size, fun k hk hne => ?_⟩
    rw [hgr.block k (by simp; omega) hne]
    exact hal k hk
  · intro k hk
    rcases hst k hk with h | h
    · exact .inl h
    · right; simp at h; omega
/-- The same as one step of a region that draws its order. -/
theorem step_append1s {α : Type} [Rep α] {S : Nat → Prop} {K : Act → World → Prop} {E : Prop} {s x : Operand} {t e : TypeId} {z : Value} {bytes : Nat} (hgd : o.guard = none)
    (ho : o.op = .call { callee := .builtin .append, args := #[s, x], argTypes := #[t, t] }) (ht : P.underlying t = some (.slice e))
    (hi : (P.info? e).map (fun i => (i.zero, i.size, i.bytes)) = some (some z, Rep.sz α, bytes)) (hz : z.cells.size = Rep.sz α) (hp : 0 < Rep.sz α)
    {B : Nat} {v : Value} {xs : List α} {y : α} {cs : List Value} {w0 : World} {e' : TypeId} (hs : a.eval s = v) {g : Nat} (hx : a.eval x = .slice (some ⟨g, 0, none⟩) 1 1) (hw : w = w0.alloc (.cells cs.toArray e')) (hg : g = w0.heap.size) (hown : Own S w0 B e v xs) (hy : Rep.cells S w0 cs y)
    (hS : ∀ b, S b → b < w0.heap.size ∧ v.ownBlock ≠ some b) (h63 : xs.length + 1 ≤ maxLen) (hbytes : (xs.length + 1) * bytes ≤ 140737488355328) (hbase : B ≤ w0.heap.size)
    (h : ∀ v' w', Own S w' B e v' (xs ++ [y]) → w0.grownBy w' v.ownBlock → Stay w0 v v' → K (a.put o.dst v') w') : if Region.wanted o (yielded ops a.tmps) = true then Oper.wp P o a w K Q else E := by
  have hwt : Region.wanted o (yielded ops a.tmps) = true := by simp [Region.wanted, hgd]
  rw [if_pos hwt]
  subst hw hg
  have hal : ∀ b, b < w0.heap.size → (w0.alloc (.cells cs.toArray e')).heap[b]? = w0.heap[b]? := fun b hb => Below.heap_alloc _ _ _ hb
  obtain ⟨i, hi, hz0, hz1, hz2⟩ := info_parts hi
  obtain ⟨css, h1, h2, hrow⟩ := hown.alloc (.cells cs.toArray e') (fun b hb => (hS b hb).1)
  have hcl : cs.length = Rep.sz α := Rep.len hy
  have hcell : ∀ j u, cs[j]? = some u → (w0.alloc (.cells cs.toArray e')).cell? ((⟨w0.heap.size, 0, none⟩ : Addr).add j) = some u := fun j u hu => by
    rw [Addr.add_lit, Nat.zero_add]
    have : (w0.alloc (.cells cs.toArray e')).heap[w0.heap.size]? = some (.cells cs.toArray e' (0, 0)) := heap_alloc_new _ _
    simp only [World.cell?]
    rw [this]
    simpa using hu
  have hone : ∀ u ∈ cs, u.oneCell' = true := Rep.one hy
  obtain ⟨v', w', hr, ho', hgr, -⟩ := run_append_own (P := P) (w0.alloc (.cells cs.toArray e')) B t o.type e i z (Rep.sz α) bytes ht hi hz0 hz1 hz2 hz hp v xs.length css.flatten hrow ⟨w0.heap.size, 0, none⟩ 1 1 cs (by simpa using hcl) hcell hone h63 hbytes (by simp; omega)
  have hst := append_block (P := P) ht hi hz0 (base := B) (hz1 ▸ hrow) (by rw [hz1]; simpa using hcl) hcell hone (by omega) h63 (by rw [hz2]; exact hbytes) hr
  unfold Oper.wp execOp
  simp only [ho, resolve, invoke, builtin, Sem.run_bind, Sem.run_pure, Result.andThen_ok, List.map_toArray, List.map_cons, List.map_nil, hs, hx, hr]
  refine h v' w' ?_ ?_ ?_
  · refine Own.more (S := S) (w0 := w0.alloc (.cells cs.toArray e')) (dss := [cs]) (ys := [y]) h1 h2 rfl (fun k x cs' hx hc => ?_) (fun b hb => ?_) (by simpa using ho')
    · have hk : k = 0 := by have := (List.getElem?_eq_some_iff.1 hx).1; simp at this; exact this
      subst hk
      simp at hx hc
      subst hx hc
      exact Rep.keep (fun b hb => hal b (hS b hb).1) hy
    · exact hgr.block b (by have := (hS b hb).1; simp; omega) (fun e => (hS b hb).2 e.symm)
  · refine ⟨hgr.os, hgr.tape, hgr.output, Nat.le_trans (by simp) hgr.size, fun k hk hne => ?_⟩
    rw [hgr.block k (by simp; omega) hne]
    exact hal k hk
  · intro k hk
    rcases hst k hk with h | h
    · exact .inl h
    · right; simp at h; omega
end
end Go.Bk

/- General: parts of slices: the runs of 's[:k]' and 's[k:]', and the lists that they read as. No program is named here. -/
namespace Go.Bk
open Go.RowKit
section
variable {P : Program}
theorem run_slice_to {t e : TypeId} {z : Nat} (ht : P.underlying t = some (.slice e)) (hz : (P.info? e).map (·.size) = some z) (a : Option Addr) (n c k : Nat) (hk : k ≤ c) (hc : c ≤ 9223372036854775807) (w : World) :
    (Instr.slice t (.slice a n c) none (some (.int .i64 (k : Int))) none).run P w = .ok (.slice a k c) w := by
  obtain ⟨i, hi, hs⟩ := Option.map_eq_some_iff.1 hz
  have h1 : (0 : Int) ≤ (k : Int) := by omega
  have h2 : (k : Int) ≤ (c : Int) := by omega
  simp [Instr.slice, Instr.sliceBounds, Instr.sliceBound, run_underlying ht, sizeOf, typeInfo, hi, asIntOf, go_sem, h1, h2]
  intro hlt
  omega
end
section
variable {α : Type} [Rep α] {S : Nat → Prop} {w : World} {a : Option Addr} {xs : List α}
/-- The value's form, its capacity's bound too, and the list that is read at it. -/
theorem Own.arrC {B : Nat} {e : TypeId} {v : Value} (h : Own S w B e v xs) : ∃ a cap, v = .slice a xs.length cap ∧ xs.length ≤ cap ∧ (a = none → cap = 0) ∧ cap ≤ maxLen ∧ Arr (fun b => S b ∨ (B ≤ b ∧ b < w.heap.size)) w a xs := by
  obtain ⟨a, cap, rfl, h1, h2, h3⟩ := h.arr
  refine ⟨a, cap, rfl, h1, h2, ?_, h3⟩
  obtain ⟨css, -, -, -, ⟨hv, -⟩ | ⟨g, cap', cur, hv, -, -, -, hm, -, -⟩⟩ := h
  · injection hv with _ _ h; subst h; exact Nat.zero_le _
  · injection hv with _ _ h; subst h; exact hm
/-- What is handed back: a list of the call's own. -/
def RetOwn (eT : TypeId) (w : World) (xs : List α) (e : Ending) (w' : World) : Prop := ∃ v, e = .returned v ∧ Own (fun _ => False) w' w.heap.size eT v xs ∧ Below w.heap.size w w'
end
/-- 's[:k]', no bound on the capacity. -/
theorem run_slice_head {P : Program} {t e : TypeId} {z : Nat} (ht : P.underlying t = some (.slice e)) (hi : (P.info? e).map (fun i => i.size) = some z) (a : Option Addr) (n c k : Nat) (hk : k ≤ c) (w : World) :
    (Instr.slice t (.slice a n c) none (some (.int .i64 (k : Int))) none).run P w = .ok (.slice a k c) w := by
  obtain ⟨i, hi, hz⟩ := Option.map_eq_some_iff.1 hi
  have h1 : (0 : Int) ≤ (k : Int) := by omega
  have h2 : (k : Int) ≤ (c : Int) := by omega
  simp [Instr.slice, Instr.sliceBounds, Instr.sliceBound, run_underlying ht, sizeOf, typeInfo, hi, asIntOf, go_sem, h1, h2]
  intro hlt
  omega
end Go.Bk

/- General: append of one number to a row of one's own, where the row itself is still read afterwards. No program is named here. -/
namespace Go.Bk
open Go.RowKit

section
variable {P : Program} {w : World} {B : Nat} {e : TypeId} {v : Value} {xs : List Int}
def intsV (xs : List Int) : List Value := xs.map fun x => .int .i64 x
theorem flat_ints : ∀ (xs : List Int), (xs.map fun x => [Value.int .i64 x]).flatten = intsV xs
  | [] => rfl
  | x :: xs => by
    have := flat_ints xs
    simp [intsV] at this ⊢
    exact this
theorem own_int_row (h : Own (fun _ => False) w B e v xs) : w.ownsRow B e 1 v xs.length (intsV xs) ∧ ∀ x ∈ xs, I64 x := by
  obtain ⟨css, h1, h2, ho⟩ := h
  have hc : ∀ (k : Nat) (x : Int) (cs : List Value), xs[k]? = some x → css[k]? = some cs → cs = [.int .i64 x] ∧ I64 x := fun k x cs hx hcs => h2 k x cs hx hcs
  have hcss : css = xs.map fun x => [Value.int .i64 x] := by
    refine List.ext_getElem? fun k => ?_
    rw [List.getElem?_map]
    cases hk : xs[k]? with
    | none =>
      have : css[k]? = none := by
        rw [List.getElem?_eq_none_iff] at hk ⊢
        omega
      simp [this]
    | some x =>
      have hlt : k < css.length := by rw [h1]; exact (List.getElem?_eq_some_iff.1 hk).1
      rw [List.getElem?_eq_getElem hlt]
      simp
      exact (hc k x _ hk (List.getElem?_eq_getElem hlt)).1
  subst hcss
  rw [flat_ints] at ho
  refine ⟨ho, fun x hx => ?_⟩
  obtain ⟨k, hk⟩ := List.getElem?_of_mem hx
  exact (hc k x _ hk (by rw [List.getElem?_map, hk]; rfl)).2
theorem own_int_mk (h : w.ownsRow B e 1 v xs.length (intsV xs)) (hi : ∀ x ∈ xs, I64 x) : Own (fun _ => False) w B e v xs := by
  refine ⟨xs.map fun x => [Value.int .i64 x], by simp, fun k x cs hx hcs => ?_, by rw [flat_ints]; exact h⟩
  rw [List.getElem?_map, hx] at hcs
  obtain rfl := Option.some.inj hcs
  exact ⟨rfl, hi x (List.mem_of_getElem? hx)⟩
end
end Go.Bk

/- General: cells of one's own rows set one after the other; a row of numbers made out of its cells. No program is named here. -/
namespace Go.Bk
open Go.RowKit

theorem blk_setCell_other {w : World} (a : Addr) (v : Value) (b : Nat) (h : b ≠ a.block) : (w.setCell a v).heap[b]? = w.heap[b]? := by
  simp only [World.setCell]
  split
  all_goals (first | rw [Array.getElem?_modify, if_neg (fun e => h e.symm)] | rfl)
theorem size_setCell (w : World) (a : Addr) (v : Value) : (w.setCell a v).heap.size = w.heap.size := by
  simp only [World.setCell]
  split <;> simp
theorem heap_setCells_size (g : Nat) : ∀ (vs : List Value) (o : Nat) (w : World), (w.setCells g o vs).heap.size = w.heap.size
  | [], _, _ => rfl
  | v :: r, o, w => by rw [World.setCells, heap_setCells_size g r]; exact size_setCell ..
theorem heap_setCells_ne (g : Nat) : ∀ (vs : List Value) (o : Nat) (w : World) (b : Nat), b ≠ g → (w.setCells g o vs).heap[b]? = w.heap[b]?
  | [], _, _, _, _ => rfl
  | v :: r, o, w, b, h => by rw [World.setCells, heap_setCells_ne g r _ _ b h]; exact blk_setCell_other _ _ _ h
theorem grownBy_setCell {w w1 : World} {g : Nat} (h : w.grownBy w1 (some g)) (o : Nat) (v : Value) : w.grownBy (w1.setCell ⟨g, o, none⟩ v) (some g) :=
  ⟨h.os, h.tape, h.output, by rw [size_setCell]; exact h.size, fun k hk hne => by rw [blk_setCell_other _ _ _ (fun e => hne (by rw [e]))]; exact h.block k hk hne⟩
theorem grownBy_setCells {w : World} {g : Nat} : ∀ (vs : List Value) (o : Nat) (w1 : World), w.grownBy w1 (some g) → w.grownBy (w1.setCells g o vs) (some g)
  | [], _, _, h => h
  | v :: r, o, w1, h => grownBy_setCells r (o + 1) _ (grownBy_setCell h o v)
/-- A row of numbers, out of its cells. -/
theorem own_of_cells {w : World} {B g n c : Nat} {e : TypeId} {cs : List Value} {zs : List Int} (hB : B ≤ g) (hb : Blk w g e cs) (hc : cs.length = c) (hn : n ≤ c) (hcm : c ≤ maxLen) (hz : zs.length = n) (ht : cs.take n = intsV zs) (hi : ∀ z ∈ zs, I64 z) :
    Own (fun _ => False) w B e (.slice (some ⟨g, 0, none⟩) n c) zs := by
  subst hz
  refine own_int_mk ⟨by simp [intsV], .inr ⟨g, c, cs.toArray, rfl, hB, hb, hn, hcm, by simp [hc], by simpa using ht⟩⟩ hi
/-- The cells of a row of numbers. -/
theorem own_cells {w : World} {B : Nat} {e : TypeId} {v : Value} {xs : List Int} (h : Own (fun _ => False) w B e v xs) :
    (v = .slice none 0 0 ∧ xs = []) ∨ ∃ g c cs, v = .slice (some ⟨g, 0, none⟩) xs.length c ∧ B ≤ g ∧ Blk w g e cs ∧ cs.length = c ∧ xs.length ≤ c ∧ c ≤ maxLen ∧ cs.take xs.length = intsV xs := by
  obtain ⟨hr, hi⟩ := own_int_row h
  obtain ⟨hl, ⟨h, hn⟩ | ⟨g, c, cur, he, hg, hh, hle, hm, hcs, ht⟩⟩ := hr
  · exact .inl ⟨h, List.eq_nil_of_length_eq_zero hn⟩
  · refine .inr ⟨g, c, cur.toList, he, hg, by unfold Blk; simpa using hh, by simpa using hcs, hle, hm, by simpa using ht⟩
theorem own_i64 {w : World} {B : Nat} {e : TypeId} {v : Value} {xs : List Int} (h : Own (fun _ => False) w B e v xs) : ∀ x ∈ xs, I64 x := (own_int_row h).2
theorem intsV_take (xs : List Int) (n : Nat) : intsV (xs.take n) = (intsV xs).take n := by simp [intsV, List.map_take]
end Go.Bk
