/- General: how Go's data lie in cells (typed), what a world keeps of them, how an argument that reads as data is opened to them. No program is named here. -/
import Derived.ProofKit
import Derived.WalkKit
import Derived.Deep.Slices
import Derived.Lib.Hide
import Derived.Below
import Derived.OpenShut
import Derived.ChangeOld
import Derived.Carry
import Derived.BigQuiet
set_option linter.unusedVariables false
set_option linter.unusedSimpArgs false
namespace Go.Bk
open Go.RowKit Go.ChangeShapes Go.WideShapes Go.Deep

/-- An int that fits 64 bits. -/
def I64 (n : Int) : Prop := -9223372036854775808 ≤ n ∧ n ≤ 9223372036854775807

theorem I64.of_wf {n : Int} (h : (Lit.int .i64 n).wf = true) : I64 n := by
  simp [Lit.wf, IntKind.min, IntKind.max, IntKind.signed, IntKind.bits] at h
  unfold I64; omega
theorem I64.wf {n : Int} (h : I64 n) : (Lit.int .i64 n).wf = true := by
  unfold I64 at h
  simp [Lit.wf, IntKind.min, IntKind.max, IntKind.signed, IntKind.bits]; omega

/-- Data that lie in a fixed number of cells. 'S': the blocks that they lead to. -/
class Rep (α : Type) where
  sz : Nat
  cells : (Nat → Prop) → World → List Value → α → Prop
  len : ∀ {S : Nat → Prop} {w : World} {cs : List Value} {x : α}, cells S w cs x → cs.length = sz
  keep : ∀ {S : Nat → Prop} {w w' : World} {cs : List Value} {x : α}, (∀ b, S b → w'.heap[b]? = w.heap[b]?) → cells S w cs x → cells S w' cs x
  mono : ∀ {S S' : Nat → Prop} {w : World} {cs : List Value} {x : α}, (∀ b, S b → S' b) → cells S w cs x → cells S' w cs x
  one : ∀ {S : Nat → Prop} {w : World} {cs : List Value} {x : α}, cells S w cs x → ∀ u ∈ cs, u.oneCell' = true

instance : Rep Int where
  sz := 1
  cells := fun _ _ cs x => cs = [.int .i64 x] ∧ I64 x
  len := by rintro S w cs x ⟨rfl, _⟩; rfl
  keep := fun _ h => h
  mono := fun _ h => h
  one := by rintro S w cs x ⟨rfl, _⟩ u hu; simp at hu; subst hu; rfl

instance : Rep Bool where
  sz := 1
  cells := fun _ _ cs x => cs = [.bool x]
  len := by rintro S w cs x rfl; rfl
  keep := fun _ h => h
  mono := fun _ h => h
  one := by rintro S w cs x rfl u hu; simp at hu; subst hu; rfl

instance : Rep ByteArray where
  sz := 1
  cells := fun _ _ cs x => cs = [.string x] ∧ x.size ≤ maxLen
  len := by rintro S w cs x ⟨rfl, _⟩; rfl
  keep := fun _ h => h
  mono := fun _ h => h
  one := by rintro S w cs x ⟨rfl, _⟩ u hu; simp at hu; subst hu; rfl

/-- At 'a' lies the list 'xs'. -/
structure Arr {α : Type} [Rep α] (S : Nat → Prop) (w : World) (a : Option Addr) (xs : List α) : Prop where
  small : xs.length ≤ maxLen
  lies : xs = [] ∨ ∃ b off, a = some ⟨b, off, none⟩ ∧ S b ∧ ∀ k x, xs[k]? = some x → ∃ cs, Rep.cells S w cs x ∧ ∀ j, j < Rep.sz α → w.cell? ⟨b, off + k * Rep.sz α + j, none⟩ = cs[j]?

section
variable {α : Type} [Rep α] {S S' : Nat → Prop} {w w' : World} {a : Option Addr} {xs : List α}

theorem Arr.nil (S : Nat → Prop) (w : World) (a : Option Addr) : Arr S w a ([] : List α) := ⟨Nat.zero_le _, .inl rfl⟩

theorem Arr.keep (hk : ∀ b, S b → w'.heap[b]? = w.heap[b]?) (h : Arr S w a xs) : Arr S w' a xs := by
  refine ⟨h.small, ?_⟩
  rcases h.lies with h | ⟨b, off, rfl, hb, hx⟩
  · exact .inl h
  · refine .inr ⟨b, off, rfl, hb, fun k x hkx => ?_⟩
    obtain ⟨cs, hc, hj⟩ := hx k x hkx
    exact ⟨cs, Rep.keep hk hc, fun j hjl => (World.cell?_of_block (w := w) (hk b hb)).trans (hj j hjl)⟩

theorem Arr.mono (hs : ∀ b, S b → S' b) (h : Arr S w a xs) : Arr S' w a xs := by
  refine ⟨h.small, ?_⟩
  rcases h.lies with h | ⟨b, off, rfl, hb, hx⟩
  · exact .inl h
  · refine .inr ⟨b, off, rfl, hs b hb, fun k x hkx => ?_⟩
    obtain ⟨cs, hc, hj⟩ := hx k x hkx
    exact ⟨cs, Rep.mono hs hc, hj⟩

/-- Element k. -/
theorem Arr.at (h : Arr S w a xs) {k : Nat} {x : α} (hk : xs[k]? = some x) :
    ∃ b off cs, a = some ⟨b, off, none⟩ ∧ S b ∧ Rep.cells S w cs x ∧ ∀ j, j < Rep.sz α → w.cell? ⟨b, off + k * Rep.sz α + j, none⟩ = cs[j]? := by
  rcases h.lies with h | ⟨b, off, rfl, hb, hx⟩
  · subst h; simp at hk
  · obtain ⟨cs, hc, hj⟩ := hx k x hk
    exact ⟨b, off, cs, rfl, hb, hc, hj⟩

end

instance {α : Type} [Rep α] : Rep (List α) where
  sz := 1
  cells := fun S w cs xs => ∃ a cap, cs = [.slice a xs.length cap] ∧ xs.length ≤ cap ∧ (a = none → cap = 0) ∧ Arr S w a xs
  len := by rintro S w cs x ⟨a, cap, rfl, _⟩; rfl
  keep := fun hk ⟨a, cap, h1, h2, h3, h4⟩ => ⟨a, cap, h1, h2, h3, h4.keep hk⟩
  mono := fun hs ⟨a, cap, h1, h2, h3, h4⟩ => ⟨a, cap, h1, h2, h3, h4.mono hs⟩
  one := by rintro S w cs x ⟨a, cap, rfl, _⟩ u hu; simp at hu; subst hu; rfl

/-! ### What came in, opened -/

/-- Type T's data read as α's. -/
def Opens (P : Program) (T : TypeId) (α : Type) [Rep α] : Prop :=
  P.cellsOf T = Rep.sz α ∧
  ∀ {H : Type} (enc : TypeId × Value → H) (w : World) (spare : Nat → Bool) (held : Bool) (fuel : Nat) (cs : List Value) (d : DataW H) (ps : List MemPlace),
    DataW.trod enc P w 0 spare held fuel T cs = some (d, ps) → ∃ x : α, Rep.cells (· < w.heap.size) w cs x

theorem Opens.int {P : Program} {T : TypeId} (h : P.underlying T = some (.int .i64)) (hc : P.cellsOf T = 1) : Opens P T Int :=
  ⟨hc, fun _ _ _ _ _ _ _ _ hd => by obtain ⟨n, rfl, _, hw⟩ := DataW.trod_int h hd; exact ⟨n, rfl, I64.of_wf hw⟩⟩
theorem Opens.bool {P : Program} {T : TypeId} (h : P.underlying T = some .bool) (hc : P.cellsOf T = 1) : Opens P T Bool :=
  ⟨hc, fun _ _ _ _ _ _ _ _ hd => by obtain ⟨n, rfl, _⟩ := DataW.trod_bool h hd; exact ⟨n, rfl⟩⟩
theorem Opens.string {P : Program} {T : TypeId} (h : P.underlying T = some .string) (hc : P.cellsOf T = 1) : Opens P T ByteArray :=
  ⟨hc, fun _ _ _ _ _ _ _ _ hd => by obtain ⟨n, rfl, _, hs⟩ := DataW.trod_string h hd; exact ⟨n, rfl, hs⟩⟩
theorem Opens.slice {P : Program} {T E : TypeId} {α : Type} [Rep α] [Inhabited α] (h : P.underlying T = some (.slice E)) (hc : P.cellsOf T = 1) (hp : 0 < Rep.sz α) (he : Opens P E α) : Opens P T (List α) := by
  refine ⟨hc, fun enc w spare held fuel cs d ps hd => ?_⟩
  rcases open_slice h hd with ⟨rfl, _⟩ | ⟨a, len, cap, m, n, D, Pl, rfl, _, hl, hm, hmm, _, hi⟩
  · exact ⟨[], none, 0, rfl, by simp, fun _ => rfl, Arr.nil _ _ _⟩
  · rw [he.1] at hi
    have hlm : len ≤ m := by rw [hmm]; split <;> omega
    obtain ⟨f, hf⟩ := choose_lt (α := α) (n := len) (p := fun i x => ∃ cs', w.cells? 0 (a.add (i * Rep.sz α)) (Rep.sz α) = some cs' ∧ Rep.cells (· < w.heap.size) w cs' x) (fun i hil => by
      obtain ⟨cs', h1, h2⟩ := hi i (by omega)
      obtain ⟨x, hx⟩ := he.2 enc w spare held n cs' _ _ h2
      exact ⟨x, cs', h1, hx⟩)
    refine ⟨(List.range len).map f, some a, cap, by simp, by simpa using hl, by simp, by simp; omega, ?_⟩
    by_cases h0 : len = 0
    · exact .inl (by simp [h0])
    · obtain ⟨cs0, h1, _⟩ := hf 0 (by omega)
      obtain ⟨_, hlen, hat⟩ := World.cells?_some h1
      have h00 := hat 0 hp
      obtain ⟨b, off, spot⟩ := a
      have hsome : ∃ v, w.cell? ⟨b, off, spot⟩ = some v := by
        rw [show cs0[0]? = some (cs0[0]'(by omega)) from List.getElem?_eq_getElem (by omega)] at h00
        exact ⟨_, by simpa [Addr.add] using h00⟩
      obtain ⟨v, hv⟩ := hsome
      have hsp : spot = none := by simpa using World.cell?_spot hv
      subst hsp
      refine .inr ⟨b, off, rfl, World.block_lt_of_cell? w _ hv, fun k x hkx => ?_⟩
      have hk : k < len := by
        have := (List.getElem?_eq_some_iff.1 hkx).1; simpa using this
      obtain ⟨cs', h1, h2⟩ := hf k hk
      have hx : x = f k := by simp [hk] at hkx; exact hkx.symm
      subst hx
      obtain ⟨_, hlen, hat⟩ := World.cells?_some h1
      refine ⟨cs', h2, fun j hj => ?_⟩
      rw [← hat j hj, Go.Deep.add_add, add_plain, Nat.add_assoc]

/-- A pair: one behind the other. -/
instance {α β : Type} [Rep α] [Rep β] : Rep (α × β) where
  sz := Rep.sz α + Rep.sz β
  cells := fun S w cs x => ∃ c d, Rep.cells S w c x.1 ∧ Rep.cells S w d x.2 ∧ cs = c ++ d
  len := by rintro S w cs x ⟨c, d, hc, hd, rfl⟩; rw [List.length_append, Rep.len hc, Rep.len hd]
  keep := fun hk ⟨c, d, hc, hd, h⟩ => ⟨c, d, Rep.keep hk hc, Rep.keep hk hd, h⟩
  mono := fun hs ⟨c, d, hc, hd, h⟩ => ⟨c, d, Rep.mono hs hc, Rep.mono hs hd, h⟩
  one := by
    rintro S w cs x ⟨c, d, hc, hd, rfl⟩ u hu
    rcases List.mem_append.1 hu with h | h
    · exact Rep.one hc u h
    · exact Rep.one hd u h

/-- A type of one's own, by what it is made of. -/
@[reducible] def Rep.via {α β : Type} [Rep β] (f : α → β) : Rep α where
  sz := Rep.sz β
  cells := fun S w cs x => Rep.cells S w cs (f x)
  len := Rep.len
  keep := Rep.keep
  mono := Rep.mono
  one := Rep.one

/-- Fields from offset o on (their offsets and types) read as β's. -/
def OpensAt (P : Program) (fs : List (Nat × TypeId)) (o : Nat) (β : Type) [Rep β] : Prop :=
  ∀ {H : Type} (enc : TypeId × Value → H) (w : World) (spare : Nat → Bool) (held : Bool) (fuel : Nat) (cs : List Value), cs.length = o + Rep.sz β →
    (∀ f ∈ fs, ∃ y, DataW.trod enc P w 0 spare held fuel f.2 ((cs.drop f.1).take (P.cellsOf f.2)) = some y) → ∃ x : β, Rep.cells (· < w.heap.size) w (cs.drop o) x

theorem OpensAt.last {P : Program} {T : TypeId} (o : Nat) {α : Type} [Rep α] (h : Opens P T α) : OpensAt P [(o, T)] o α := by
  intro H enc w spare held fuel cs hl hf
  obtain ⟨⟨d, ps⟩, hy⟩ := hf (o, T) (List.mem_singleton.2 rfl)
  obtain ⟨x, hx⟩ := h.2 enc w spare held fuel _ d ps hy
  refine ⟨x, ?_⟩
  rw [h.1, List.take_of_length_le (by simp; omega)] at hx
  exact hx

theorem OpensAt.cons {P : Program} {T : TypeId} {fs : List (Nat × TypeId)} (o o' : Nat) {α β : Type} [Rep α] [Rep β] (h : Opens P T α) (ht : OpensAt P fs o' β) (ho : o + Rep.sz α = o') : OpensAt P ((o, T) :: fs) o (α × β) := by
  subst ho
  intro H enc w spare held fuel cs hl hf
  have hl' : cs.length = o + (Rep.sz α + Rep.sz β) := hl
  obtain ⟨⟨d, ps⟩, hy⟩ := hf (o, T) (List.mem_cons_self ..)
  obtain ⟨x, hx⟩ := h.2 enc w spare held fuel _ d ps hy
  obtain ⟨y, hy⟩ := ht enc w spare held fuel cs (by omega) (fun g hg => hf g (List.mem_cons_of_mem _ hg))
  rw [h.1] at hx
  refine ⟨(x, y), _, _, hx, hy, ?_⟩
  rw [← List.drop_drop, List.take_append_drop]

theorem Opens.struct {P : Program} {T : TypeId} {fs : Array Field} {β : Type} [Rep β] (h : P.underlying T = some (.struct fs)) (hc : P.cellsOf T = Rep.sz β) {l : List (Nat × TypeId)} (ht : OpensAt P l 0 β) (hl : fs.toList.map (fun f => (f.offset, f.type)) = l) : Opens P T β := by
  subst hl
  refine ⟨hc, fun enc w spare held fuel cs d ps hd => ?_⟩
  obtain ⟨xs, n, _, _, hl, hlen, hf⟩ := DataW.trod_struct h hd
  have := ht enc w spare held n cs (by omega) (fun f hfm => by
    obtain ⟨g, hgm, rfl⟩ := List.mem_map.1 hfm
    obtain ⟨i, hi⟩ := List.getElem?_of_mem hgm
    have hi' : fs[i]? = some g := by simpa using hi
    have hlt : i < fs.size := (Array.getElem?_eq_some_iff.1 hi').1
    show ∃ y, DataW.trod enc P w 0 spare held n g.type ((cs.drop g.offset).take (P.cellsOf g.type)) = some y
    rw [hf i g hi']
    exact ⟨_, List.getElem?_eq_getElem (by omega)⟩)
  simpa using this

theorem Opens.via {P : Program} {T : TypeId} {α β : Type} [Rep β] (f : α → β) (hf : ∀ y, ∃ x, f x = y) (h : Opens P T β) : @Opens P T α (Rep.via f) :=
  ⟨h.1, fun enc w spare held fuel cs d ps hd => by
    obtain ⟨y, hy⟩ := h.2 enc w spare held fuel cs d ps hd
    obtain ⟨x, rfl⟩ := hf y
    exact ⟨x, hy⟩⟩

/-! ### A law: true for every input; what came in reads as it did -/

/-- A parameter's value: of its type's form, read as some data. -/
def ArgRead (P : Program) (W : World) (T : TypeId) (v : Value) : Prop :=
  ∃ (H : Type) (enc : TypeId × Value → H) (base : Nat) (d : DataW H) (p : List MemPlace), Value.okWide P W .any base T v ∧ DataW.Trod enc P W 0 (fun _ => true) true T v d p

def ArgsRead (P : Program) (W : World) : List TypeId → List Value → Prop
  | [], [] => True
  | T :: ts, v :: vs => ArgRead P W T v ∧ ArgsRead P W ts vs
  | _, _ => False

theorem argsRead_of {H : Type} {enc : TypeId × Value → H} {P : Program} {W : World} {base : Nat} : ∀ (ts : List TypeId) (vs : List Value) (ds : List (DataW H)) (p : List MemPlace),
    (∀ (j : Nat) t v, ts[j]? = some t → vs[j]? = some v → Value.okWide P W .any base t v) → DataW.TrodAll enc P W 0 (fun _ => true) true ts vs ds p → ArgsRead P W ts vs
  | [], [], _, _, _, _ => trivial
  | t :: ts, v :: vs, ds, p, hv, h => by
    obtain ⟨v', vs', d, ds', p', q, he, rfl, rfl, h0, h1⟩ := trodAll_cons h
    simp only [List.cons.injEq] at he
    obtain ⟨rfl, rfl⟩ := he
    exact ⟨⟨H, enc, base, d, p', hv 0 t v rfl rfl, h0⟩, argsRead_of ts vs ds' q (fun j t' v' h1 h2 => hv (j + 1) t' v' (by simpa using h1) (by simpa using h2)) h1⟩
  | [], v :: vs, ds, _, _, h => by cases ds <;> exact h.elim
  | t :: ts, [], ds, _, _, h => by cases ds <;> exact h.elim

theorem ArgsRead.two {P : Program} {W : World} {T T' : TypeId} {args : Array Value} (h : ArgsRead P W [T, T'] args.toList) : ∃ v v', args = #[v, v'] ∧ ArgRead P W T v ∧ ArgRead P W T' v' := by
  obtain ⟨l⟩ := args
  match l, h with
  | [v, v'], h => exact ⟨v, v', rfl, h.1, h.2.1⟩
theorem ArgRead.struct {P : Program} {W : World} {T : TypeId} {fs : Array Field} {α : Type} [Rep α] {v : Value} (ht : P.underlying T = some (.struct fs)) (ho : Opens P T α) (h : ArgRead P W T v) :
    ∃ cs x, v = .agg cs.toArray ∧ Rep.cells (α := α) (· < W.heap.size) W cs x := by
  obtain ⟨H, enc, base, d, p, hv, ⟨n, hd⟩⟩ := h
  obtain ⟨cs, rfl, _⟩ := okWide_struct ht hv
  obtain ⟨x, hx⟩ := ho.2 enc W _ _ n _ _ _ hd
  exact ⟨cs.toList, x, by simp, by simpa [Value.cells] using hx⟩

theorem trodAll_below {H : Type} {enc : TypeId × Value → H} {P : Program} (hl : laidOutB P = true) {W W' : World} (hb : Below W.heap.size W W') : ∀ (ts : List TypeId) (vs : List Value) (ds : List (DataW H)) (ps : List MemPlace),
    (ts.all fun t => P.readableRec t && decide (t < P.types.size)) = true → DataW.TrodAll enc P W 0 (fun _ => true) true ts vs ds ps → DataW.TrodAll enc P W' 0 (fun b => decide (b < W.heap.size)) true ts vs ds ps
  | [], [], _, _, _, h => by cases ‹List (DataW H)› <;> first | exact h | exact h.elim
  | t :: ts, v :: vs, ds, ps, hr, h => by
    obtain ⟨v', vs', d, ds', p', q, he, rfl, rfl, h0, h1⟩ := trodAll_cons h
    simp only [List.cons.injEq] at he
    obtain ⟨rfl, rfl⟩ := he
    simp only [List.all_cons, Bool.and_eq_true, decide_eq_true_eq] at hr
    refine trodAll_cons_mk (Below.trod hl hr.1.1 hr.1.2 h0 hb ?_) (trodAll_below hl hb ts vs ds' q hr.2 h1)
    obtain ⟨m, hm⟩ := h0
    exact DataW.trod_lt m _ _ _ hm
  | [], v :: vs, ds, _, _, h => by cases ds <;> exact h.elim
  | t :: ts, [], ds, _, _, h => by cases ds <;> exact h.elim

theorem trodAll_length {H : Type} {enc : TypeId × Value → H} {P : Program} {W : World} : ∀ (ts : List TypeId) (vs : List Value) (ds : List (DataW H)) (ps : List MemPlace),
    DataW.TrodAll enc P W 0 (fun _ => true) true ts vs ds ps → ds.length = ts.length
  | [], vs, ds, _, h => by cases vs <;> cases ds <;> first | rfl | exact h.elim
  | t :: ts, vs, ds, ps, h => by
    obtain ⟨v', vs', d, ds', p', q, rfl, rfl, rfl, h0, h1⟩ := trodAll_cons h
    simp [trodAll_length ts vs' ds' q h1]

/-- Nothing but draws. -/
structure Quiet (w w' : World) : Prop where
  ex : ∃ n, w' = w.drewN n
theorem Quiet.refl (w : World) : Quiet w w := ⟨0, rfl⟩
theorem Quiet.more {w w' : World} (h : Quiet w w') (n : Nat) : Quiet w (w'.drewN n) := by
  obtain ⟨m, rfl⟩ := h
  exact ⟨m + n, World.drewN_drewN _ _ _⟩
theorem Quiet.heap {w w' : World} (h : Quiet w w') (b : Nat) : w'.heap[b]? = w.heap[b]? := by
  obtain ⟨n, rfl⟩ := h
  rfl
theorem Below.drewN {B : Nat} {a w : World} (h : Below B a w) (n : Nat) : Below B a (w.drewN n) := ⟨h.os, h.tape, h.output, h.size, h.block⟩
theorem Quiet.below {w w' : World} (h : Quiet w w') (B : Nat) : Below B w w' := by
  obtain ⟨m, rfl⟩ := h
  exact Go.Bk.Below.drewN (Below.refl _ _) m

end Go.Bk
