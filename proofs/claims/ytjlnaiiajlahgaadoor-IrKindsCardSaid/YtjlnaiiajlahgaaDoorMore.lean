/- General, more: a cell of a row of one's own is read and stored. No program is named here. -/
import Derived.Test.YtjlnaiiajlahgaaDoorMem
set_option linter.unusedVariables false
set_option linter.unusedSimpArgs false
namespace Go.Bk
open Go.RowKit

section
variable {α : Type} [Rep α] {S : Nat → Prop} {w w' : World} {B : Nat} {e : TypeId} {v : Value} {xs : List α}

theorem flatten_set {css : List (List Value)} {sz : Nat} (h : ∀ cs ∈ css, cs.length = sz) (k j : Nat) (u : Value) {cs : List Value} (hk : css[k]? = some cs) (hj : j < sz) : css.flatten.set (k * sz + j) u = (css.set k (cs.set j u)).flatten := by
  induction css generalizing k with
  | nil => simp at hk
  | cons c css ih =>
    have hc : c.length = sz := h c (List.mem_cons_self ..)
    cases k with
    | zero =>
      simp at hk
      subst hk
      rw [List.flatten_cons, List.set_append_left _ _ (by omega)]
      simp
    | succ k =>
      rw [List.flatten_cons, List.set_append_right _ _ (by rw [Nat.add_mul]; omega), show (k + 1) * sz + j - c.length = k * sz + j by rw [Nat.add_mul]; omega, ih (fun x hx => h x (List.mem_cons_of_mem _ hx)) k (by simpa using hk)]
      simp

/-- Element k of a row of one's own: its cells are read, and may be stored. -/
theorem Own.at (h : Own S w B e v xs) {k : Nat} {x : α} (hk : xs[k]? = some x) : ∃ g cap cs, v = .slice (some ⟨g, 0, none⟩) xs.length cap ∧ B ≤ g ∧ g < w.heap.size ∧ xs.length ≤ cap ∧ Rep.cells S w cs x ∧
    (∀ j, j < Rep.sz α → w.cell? ⟨g, k * Rep.sz α + j, none⟩ = cs[j]?) ∧ (∀ j, w.frozen? ⟨g, j, none⟩ = false) ∧
    (∀ (j : Nat) (u : Value) (x' : α), j < Rep.sz α → (∀ b, S b → b ≠ g) → Rep.cells S w (cs.set j u) x' → Own S (w.setCell ⟨g, k * Rep.sz α + j, none⟩ u) B e v (xs.set k x')) := by
  obtain ⟨css, h1, h2, ho⟩ := h
  have hlt : k < xs.length := (List.getElem?_eq_some_iff.1 hk).1
  have hsz := Own.sizes h1 h2
  obtain ⟨hl, ⟨rfl, hn⟩ | ⟨g, cap, cur, rfl, hg, hh, hle, hm, hcs, ht⟩⟩ := ho
  · omega
  · have hck : css[k]? = some (css[k]'(by omega)) := List.getElem?_eq_getElem (by omega)
    obtain ⟨cs, hcs'⟩ : ∃ cs, cs = css[k]'(by omega) := ⟨_, rfl⟩
    rw [← hcs'] at hck
    have hc := h2 k x cs hk hck
    have hcl : cs.length = Rep.sz α := Rep.len hc
    have hlt2 : ∀ j, j < Rep.sz α → k * Rep.sz α + j < xs.length * Rep.sz α := fun j hj => by
      have : (k + 1) * Rep.sz α ≤ xs.length * Rep.sz α := Nat.mul_le_mul_right _ (by omega)
      rw [Nat.add_mul] at this
      omega
    refine ⟨g, cap, cs, rfl, hg, (Array.getElem?_eq_some_iff.1 hh).1, hle, hc, fun j hj => ?_, fun j => by simp [World.frozen?, hh], fun j u x' hj hS hc' => ?_⟩
    · rw [← flatten_get hsz k j cs hck hj, ← ht, List.getElem?_take, if_pos (hlt2 j hj)]
      simp [World.cell?, hh]
    · have hb : ∀ b, S b → (w.setCell ⟨g, k * Rep.sz α + j, none⟩ u).heap[b]? = w.heap[b]? := fun b hb => by
        simp only [World.setCell]
        rw [Array.getElem?_modify, if_neg (fun e => hS b hb e.symm)]
      refine ⟨css.set k (cs.set j u), by simp [h1], fun k' y ds hy hd => ?_, ?_⟩
      · refine Rep.keep hb ?_
        by_cases hkk : k = k'
        · subst hkk
          rw [List.getElem?_set_self (by omega)] at hy
          rw [List.getElem?_set_self (by omega)] at hd
          simp at hy hd
          subst hy hd
          exact hc'
        · rw [List.getElem?_set_ne hkk] at hy hd
          exact h2 k' y ds hy hd
      · rw [← flatten_set hsz k j u hck hj]
        have hh' : (w.setCell ⟨g, k * Rep.sz α + j, none⟩ u).heap[g]? = some (.cells (cur.setIfInBounds (k * Rep.sz α + j) u) e (0, 0)) := by
          simp [World.setCell, Array.getElem?_modify, hh]
        refine ⟨by simpa using hl, .inr ⟨g, cap, _, by simp, hg, hh', by simpa using hle, hm, by simpa using hcs, ?_⟩⟩
        rw [← ht]
        simp only [Array.toList_setIfInBounds, List.length_set]
        rw [List.take_set]
end

theorem own_fresh {α : Type} [Rep α] {w w' : World} {e : TypeId} {v : Value} {xs : List α} (h : Own (fun _ => False) w' w.heap.size e v xs) : ∃ a cap, v = .slice a xs.length cap ∧ xs.length ≤ cap ∧ (a = none → cap = 0) ∧ Arr (Fresh w w') w' a xs := by
  obtain ⟨a, cap, h1, h3, h4, h2⟩ := h.arr
  exact ⟨a, cap, h1, h3, h4, h2.mono (fun b h => h.elim False.elim id)⟩

/-- The world under a name, with what is known of it. -/
theorem cut_wp {P : Program} {c : Code} {Q : Exit → Act → World → Prop} {a : Act} {W : World} (F : World → Prop) (hF : F W) (h : ∀ wz, F wz → c.wp P Q a wz) : c.wp P Q a W := h W hF
theorem cut_list {P : Program} {ops l : List Oper} {Q : Exit → Act → World → Prop} {a : Act} {W : World} (F : World → Prop) (hF : F W) (h : ∀ wz, F wz → wpList P ops.toArray Q l a wz) : wpList P ops.toArray Q l a W := h W hF
theorem cut_calls {P : Program} {f : FuncId} {args : Array Value} {R : Ending → World → Prop} {W : World} (F : World → Prop) (hF : F W) (h : ∀ wz, F wz → Calls P f args wz R) : Calls P f args W R := h W hF
theorem below_cells' {N : Nat} {w w' : World} (hb : Below N w w') : ∀ b o, b < N → w'.cell? ⟨b, o, none⟩ = w.cell? ⟨b, o, none⟩ := fun b o h => hb.cell (p := ⟨b, o, none⟩) h

def boolsV (bs : List Bool) : List Value := bs.map Value.bool
theorem boolsV_set (bs : List Bool) (k : Nat) (b : Bool) : (boolsV bs).set k (.bool b) = boolsV (bs.set k b) := by simp [boolsV, List.map_set]
theorem boolsV_get {bs : List Bool} {k : Nat} {b : Bool} (h : bs[k]? = some b) : (boolsV bs)[k]? = some (.bool b) := by simp [boolsV, h]
theorem blk_bools {w : World} {g : Nat} {e : TypeId} {bs : List Bool} (h : Blk w g e (boolsV bs)) (hl : bs.length ≤ maxLen) {S : Nat → Prop} (hS : S g) : Arr S w (some ⟨g, 0, none⟩) bs := by
  refine ⟨hl, .inr ⟨g, 0, rfl, hS, fun k x hk => ⟨[.bool x], rfl, fun j hj => ?_⟩⟩⟩
  have hj0 : j = 0 := by have : j < 1 := hj; omega
  subst hj0
  show w.cell? ⟨g, 0 + k * 1 + 0, none⟩ = some _
  rw [show 0 + k * 1 + 0 = k by omega]
  exact h.cell (boolsV_get hk)
theorem arr_bool {S : Nat → Prop} {w : World} {a : Option Addr} {xs : List Bool} (h : Arr S w a xs) {k : Nat} {x : Bool} (hk : xs[k]? = some x) : ∃ (b off : Nat), a = some ⟨b, off, none⟩ ∧ S b ∧ w.cell? ⟨b, off + k, none⟩ = some (.bool x) := by
  obtain ⟨b1, o1, cs1, rfl, hs, rfl, g1⟩ := h.at hk
  exact ⟨b1, o1, rfl, hs, by simpa [show Rep.sz Bool = 1 from rfl] using g1 0 Nat.zero_lt_one⟩
theorem Quiet.cell {w w' : World} (h : Quiet w w') (p : Addr) : w'.cell? p = w.cell? p := World.cell?_of_block (w := w) (h.heap p.block)

theorem nil_or_snoc {α : Type} (R : List α) : R = [] ∨ ∃ R' r, R = R' ++ [r] := by
  rcases List.eq_nil_or_concat R with h | ⟨a, b, h⟩
  · exact .inl h
  · exact .inr ⟨a, b, by rw [h, List.concat_eq_append]⟩

/-- What was made stays as it is. -/
theorem Arr.later {α : Type} [Rep α] {w w1 w2 : World} {a : Option Addr} {xs : List α} (h : Arr (Fresh w w1) w1 a xs) (hb : Below w1.heap.size w1 w2) : Arr (Fresh w w1) w2 a xs := h.keep (fun b hf => hb.block b hf.2)
theorem Arr.still {α : Type} [Rep α] {S : Nat → Prop} {w1 w2 : World} {a : Option Addr} {xs : List α} (h : Arr S w1 a xs) (hS : ∀ b, S b → b < w1.heap.size) (hb : Below w1.heap.size w1 w2) : Arr S w2 a xs := h.keep (fun b hs => hb.block b (hS b hs))

/-- What is handed back: a list that is new, and a number. -/
def RetLE {α : Type} [Rep α] (w : World) (res : List α × Int) (e : Ending) (w' : World) : Prop :=
  (∃ a c, e = .returned (.tuple #[.slice a res.1.length c, .int .i64 res.2]) ∧ Arr (Fresh w w') w' a res.1 ∧ res.1.length ≤ c ∧ (a = none → c = 0)) ∧ Below w.heap.size w w'
theorem RetLE.err {α : Type} [Rep α] {w w' : World} {res : List α × Int} {n : Int} (h : res = ([], n)) (hb : Below w.heap.size w w') : RetLE w res (.returned (.tuple #[.slice Option.none 0 0, .int .i64 n])) w' :=
  ⟨⟨Option.none, 0, by rw [h]; rfl, by rw [h]; exact Arr.nil _ _ _, by rw [h]; simp, fun _ => rfl⟩, hb⟩
theorem RetLE.ok {α : Type} [Rep α] {w w' : World} {res : List α × Int} {l : List α} {n : Int} (h : res = (l, n)) (hb : Below w.heap.size w w') {a : Option Addr} {c : Nat} (ha : Arr (Fresh w w') w' a l) (hc : l.length ≤ c) (hn : a = none → c = 0) : RetLE w res (.returned (.tuple #[.slice a l.length c, .int .i64 n])) w' :=
  ⟨⟨a, c, by rw [h], by rw [h]; exact ha, by rw [h]; exact hc, hn⟩, hb⟩
/-- What is handed back: a list that is new. -/
def RetL {α : Type} [Rep α] (w : World) (res : List α) (e : Ending) (w' : World) : Prop :=
  (∃ a c, e = .returned (.slice a res.length c) ∧ Arr (Fresh w w') w' a res ∧ res.length ≤ c ∧ (a = none → c = 0)) ∧ Below w.heap.size w w'
theorem RetL.mk {α : Type} [Rep α] {w w' : World} {l : List α} (hb : Below w.heap.size w w') {a : Option Addr} {c : Nat} (ha : Arr (Fresh w w') w' a l) (hc : l.length ≤ c) (hn : a = none → c = 0) : RetL w l (.returned (.slice a l.length c)) w' :=
  ⟨⟨a, c, rfl, ha, hc, hn⟩, hb⟩
/-- One list, or two, in a row of lists. -/
theorem arr_lists1 {α : Type} [Rep α] {S : Nat → Prop} {w : World} {g c1 : Nat} {e : TypeId} {a1 : Option Addr} {x : List α} (hb : Blk w g e [.slice a1 x.length c1]) (hc : x.length ≤ c1) (hn : a1 = none → c1 = 0) (h : Arr S w a1 x) (hS : ∀ b, S b → b < w.heap.size) :
    Arr (· < w.heap.size) w (some ⟨g, 0, none⟩) [x] := by
  refine ⟨by simp [maxLen], .inr ⟨g, 0, rfl, hb.lt, fun k y hk => ?_⟩⟩
  have hk0 : k = 0 := by have := (List.getElem?_eq_some_iff.1 hk).1; simp at this; exact this
  subst hk0
  simp at hk
  subst hk
  refine ⟨[.slice a1 x.length c1], ⟨a1, c1, rfl, hc, hn, h.mono hS⟩, fun j hj => ?_⟩
  have hj0 : j = 0 := by have : j < 1 := hj; omega
  subst hj0
  exact hb.cell (by simp)
theorem arr_lists2 {α : Type} [Rep α] {S S2 : Nat → Prop} {w : World} {g c1 c2 : Nat} {e : TypeId} {a1 a2 : Option Addr} {x y : List α} (hb : Blk w g e [.slice a1 x.length c1, .slice a2 y.length c2]) (hc : x.length ≤ c1) (hn : a1 = none → c1 = 0) (h : Arr S w a1 x) (hS : ∀ b, S b → b < w.heap.size)
    (hc2 : y.length ≤ c2) (hn2 : a2 = none → c2 = 0) (h2 : Arr S2 w a2 y) (hS2 : ∀ b, S2 b → b < w.heap.size) : Arr (· < w.heap.size) w (some ⟨g, 0, none⟩) [x, y] := by
  refine ⟨by simp [maxLen], .inr ⟨g, 0, rfl, hb.lt, fun k z hk => ?_⟩⟩
  have hk1 := (List.getElem?_eq_some_iff.1 hk).1
  have hk01 : k = 0 ∨ k = 1 := by simp at hk1; omega
  rcases hk01 with rfl | rfl
  · simp at hk
    subst hk
    refine ⟨[.slice a1 x.length c1], ⟨a1, c1, rfl, hc, hn, h.mono hS⟩, fun j hj => ?_⟩
    have hj0 : j = 0 := by have : j < 1 := hj; omega
    subst hj0
    exact hb.cell (by simp)
  · simp at hk
    subst hk
    refine ⟨[.slice a2 y.length c2], ⟨a2, c2, rfl, hc2, hn2, h2.mono hS2⟩, fun j hj => ?_⟩
    have hj0 : j = 0 := by have : j < 1 := hj; omega
    subst hj0
    exact hb.cell (by simp [show Rep.sz (List α) = 1 from rfl])
section
variable {P : Program} {ops : Array Oper} {Q : Exit → Act → World → Prop} {a : Act} {w : World} {rest : List Oper} {o : Oper}
theorem splice_map {α β : Type} (f : α → β) (l : List α) (k : Nat) (c : List α) : splice (l.map f) k (c.map f) = (splice l k c).map f := by simp [splice]
/-- 'copy(dst, src)', ints: dst a part of a row of the call's own; how many are copied is told. -/
theorem wp_copy_at {d s : Operand} {dT sT e : TypeId} (hgd : o.guard = none) (ho : o.op = .call { callee := .builtin .copy, args := #[d, s], argTypes := #[dT, sT] })
    (hu : P.underlying dT = some (.slice e)) (hsz : (P.info? e).map (fun i => (i.zero, i.size, i.bytes)) = some (some (.int .i64 0), 1, 8))
    {g off n dCap sLen sCap : Nat} {sp : Option Addr} {zs xs : List Int} {S : Nat → Prop} (hd : a.eval d = .slice (some ⟨g, off, none⟩) n dCap) (hs : a.eval s = .slice sp sLen sCap) (hsl : xs.length = sLen) (hg : Blk w g e (zs.map (Value.int .i64))) (hx : Arr S w sp xs)
    (hfit : off + n ≤ zs.length) {B : Nat} {w0 : World} (hb : Below B w0 w) (hB : B ≤ g)
    (h : ∀ (w' : World), Blk w' g e ((splice zs off (xs.take n)).map (Value.int .i64)) → Below B w0 w' → w'.heap.size = w.heap.size → (∀ b, b ≠ g → w'.heap[b]? = w.heap[b]?) → wpList P ops Q rest (a.put o.dst (.int .i64 ((min sLen n : Nat) : Int))) w') :
    wpList P ops Q (o :: rest) a w := by
  subst hsl
  have hsz' : (P.info? e).map (·.size) = some 1 := by
    obtain ⟨i, hi, _, hs, _⟩ := info_parts hsz
    simp [hi, hs]
  have hm : Nat.min xs.length n = min xs.length n := rfl
  by_cases h0 : Nat.min xs.length n = 0
  · refine wpList_copy_nothing hgd d s dT sT ho e hu hsz' _ _ _ _ _ _ hd hs h0 ?_
    have e1 : xs.take n = [] := by
      rcases Nat.min_eq_zero_iff.1 (hm ▸ h0) with h | h
      · simp [List.eq_nil_of_length_eq_zero h]
      · simp [h]
    have := h w (by rw [e1]; simpa [splice] using hg) hb rfl (fun _ _ => rfl)
    rw [← hm, h0] at this
    exact this
  · have hlt : 0 < xs.length := by omega
    rcases hx.lies with hx0 | ⟨b, so, rfl, hb0, hel⟩
    · rw [hx0] at hlt; simp at hlt
    · refine wpList_copy_own hgd d s dT sT ho e hu hsz' g off n dCap ⟨b, so, none⟩ xs.length sCap hd hs (zs.map (Value.int .i64)).toArray e hg ((xs.take n).map (Value.int .i64)) ?_ ?_ ?_ ?_ ?_
      · rw [hm]; simp; omega
      · intro j v hv
        have hj : j < xs.length ∧ j < n := by
          have := (List.getElem?_eq_some_iff.1 hv).1
          simp at this; omega
        have hxj : xs[j]? = some xs[j] := List.getElem?_eq_getElem hj.1
        obtain ⟨cs, hc, hcj⟩ := hel j _ hxj
        obtain ⟨rfl, _⟩ := hc
        have := hcj 0 (Nat.zero_lt_one)
        have hv' : v = .int .i64 xs[j] := by
          rw [List.getElem?_map, List.getElem?_take] at hv
          simp [hj.2, hj.1] at hv; exact hv.symm
        rw [Addr.add_lit, hv']
        simpa [show Rep.sz Int = 1 from rfl] using this
      · simp
        omega
      · intro v hv
        obtain ⟨_, _, rfl⟩ := List.mem_map.1 hv
        rfl
      · have e1 : (zs.map (Value.int .i64)).toArray.toList.take off ++ ((xs.take n).map (Value.int .i64) ++ (zs.map (Value.int .i64)).toArray.toList.drop (off + ((xs.take n).map (Value.int .i64)).length)) = (splice zs off (xs.take n)).map (Value.int .i64) := by
          rw [← splice_map]; rfl
        have hset := setRow_heap w g (zs.map (Value.int .i64)).toArray ((splice zs off (xs.take n)).map (Value.int .i64)).toArray e (0, 0) hg
        rw [e1]
        have e2 : goInt (((xs.take n).map (Value.int .i64)).length : Int) = .int .i64 ((min xs.length n : Nat) : Int) := by
          simp [goInt, Nat.min_comm]
        rw [e2]
        exact h _ hset (below_setRow hb hB _) (by simp [World.setRow]) (fun b hb => setRow_other w g b _ hb)
end
theorem Blk.cell0 {w : World} {g : Nat} {e : TypeId} {v : Value} {cs : List Value} (h : Blk w g e (v :: cs)) : w.cell? ⟨g, 0, none⟩ = some v := h.cell (j := 0) rfl
theorem arr_take {α : Type} [Rep α] {S : Nat → Prop} {w : World} {a : Option Addr} {xs : List α} (h : Arr S w a xs) (m : Nat) : Arr S w a (xs.take m) := by
  refine ⟨by have := h.small; simp; omega, ?_⟩
  rcases h.lies with h | ⟨b, off, rfl, hb, hx⟩
  · subst h; exact .inl (by simp)
  · exact .inr ⟨b, off, rfl, hb, fun k x hk => hx k x (by
      have hlt := (List.getElem?_eq_some_iff.1 hk).1
      rw [List.length_take] at hlt
      rw [List.getElem?_take_of_lt (by omega)] at hk
      exact hk)⟩
end Go.Bk
