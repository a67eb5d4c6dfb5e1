/- General: where what came in is of a small bulk: the typed value that is read is as small. No program's function is named here. -/
import Derived.Test.YtimlhjjdaggiiaaRows
import Derived.Test.YtimlhjjdaggiiaaMem
import Derived.JoinedCond
set_option linter.unusedVariables false
set_option linter.unusedSimpArgs false
namespace Go.Bk
open Go.RowKit Go.ChangeShapes Go.WideShapes Go.Deep Go.Proofs.Ytimlhjjdaggiiaa

class Bulk (α : Type) where
  bulk : α → Nat
instance : Bulk Int := ⟨fun _ => 1⟩
instance : Bulk Bool := ⟨fun _ => 1⟩
instance : Bulk UInt8 := ⟨fun _ => 1⟩
instance : Bulk ByteArray := ⟨fun s => s.size + 1⟩
def sumOf {α : Type} (f : α → Nat) : List α → Nat
  | [] => 0
  | x :: l => f x + sumOf f l
instance {α : Type} [Bulk α] : Bulk (List α) := ⟨fun l => sumOf Bulk.bulk l + 1⟩
instance {α β : Type} [Bulk α] [Bulk β] : Bulk (α × β) := ⟨fun x => Bulk.bulk x.1 + Bulk.bulk x.2⟩
@[reducible] def Bulk.via {α β : Type} [Bulk β] (f : α → β) : Bulk α := ⟨fun x => Bulk.bulk (f x)⟩

theorem bulk_one {H : Type} (d : DataW H) : 1 ≤ Rows.uptoBulk d := by
  cases d with
  | lit l => cases l <;> simp [Rows.uptoBulk]
  | nil => simp [Rows.uptoBulk]
  | ptr d => simp [Rows.uptoBulk]
  | slice elems spare => simp [Rows.uptoBulk]
  | agg parts => simp [Rows.uptoBulk]
  | iface t d => simp [Rows.uptoBulk]
  | map entries => simp [Rows.uptoBulk]
  | held h => simp [Rows.uptoBulk]
theorem bulk_all {H : Type} : ∀ l : List (DataW H), Rows.uptoBulkAll l = sumOf Rows.uptoBulk l
  | [] => by simp [Rows.uptoBulkAll, sumOf]
  | d :: l => by simp [Rows.uptoBulkAll, sumOf, bulk_all l]
theorem sumOf_le {α β : Type} (f : α → Nat) (g : β → Nat) (h : Nat → α) (k : Nat → β) : ∀ (l : List Nat), (∀ i ∈ l, f (h i) ≤ g (k i)) → sumOf f (l.map h) ≤ sumOf g (l.map k)
  | [], _ => Nat.le_refl _
  | i :: l, hi => by
    have h1 := hi i (List.mem_cons_self ..)
    have h2 := sumOf_le f g h k l (fun j hj => hi j (List.mem_cons_of_mem _ hj))
    simp only [List.map_cons, sumOf]
    omega
theorem sumOf_mem {α : Type} {f : α → Nat} {x : α} : ∀ {l : List α}, x ∈ l → f x ≤ sumOf f l
  | y :: l, h => by
    simp only [sumOf]
    rcases List.mem_cons.1 h with rfl | h
    · omega
    · have := sumOf_mem (f := f) h; omega
theorem sumOf_append {α : Type} (f : α → Nat) (l m : List α) : sumOf f (l ++ m) = sumOf f l + sumOf f m := by
  induction l with
  | nil => simp [sumOf]
  | cons x l ih => simp only [List.cons_append, sumOf, ih]; omega
theorem sumOf_len {α : Type} {f : α → Nat} (h : ∀ x, 1 ≤ f x) : ∀ l : List α, l.length ≤ sumOf f l
  | [] => Nat.le_refl _
  | x :: l => by have := h x; have := sumOf_len h l; simp only [sumOf, List.length_cons]; omega

/-- Type T's data read as α's, no greater than the data. -/
def OpensB (P : Program) (T : TypeId) (α : Type) [Rep α] [Bulk α] : Prop :=
  P.cellsOf T = Rep.sz α ∧
  ∀ {H : Type} (enc : TypeId × Value → H) (w : World) (spare : Nat → Bool) (held : Bool) (fuel : Nat) (cs : List Value) (d : DataW H) (ps : List MemPlace),
    DataW.trod enc P w 0 spare held fuel T cs = some (d, ps) → ∃ x : α, Rep.cells (· < w.heap.size) w cs x ∧ Bulk.bulk x ≤ Rows.uptoBulk d

theorem OpensB.int {P : Program} {T : TypeId} (h : P.underlying T = some (.int .i64)) (hc : P.cellsOf T = 1) : OpensB P T Int :=
  ⟨hc, fun enc w spare held fuel cs d ps hd => by obtain ⟨x, hx⟩ := (Opens.int h hc).2 enc w spare held fuel cs d ps hd; exact ⟨x, hx, bulk_one d⟩⟩
theorem OpensB.bool {P : Program} {T : TypeId} (h : P.underlying T = some .bool) (hc : P.cellsOf T = 1) : OpensB P T Bool :=
  ⟨hc, fun enc w spare held fuel cs d ps hd => by obtain ⟨x, hx⟩ := (Opens.bool h hc).2 enc w spare held fuel cs d ps hd; exact ⟨x, hx, bulk_one d⟩⟩
theorem OpensB.byte {P : Program} {T : TypeId} (h : P.underlying T = some (.int .u8)) (hc : P.cellsOf T = 1) : OpensB P T UInt8 :=
  ⟨hc, fun enc w spare held fuel cs d ps hd => by obtain ⟨x, hx⟩ := (Opens.byte h hc).2 enc w spare held fuel cs d ps hd; exact ⟨x, hx, bulk_one d⟩⟩
theorem OpensB.string {P : Program} {T : TypeId} (h : P.underlying T = some .string) (hc : P.cellsOf T = 1) : OpensB P T ByteArray :=
  ⟨hc, fun _ _ _ _ _ _ _ _ hd => by
    obtain ⟨n, rfl, hx, hs⟩ := DataW.trod_string h hd
    refine ⟨n, ⟨rfl, hs⟩, ?_⟩
    injection hx with h1 _
    subst h1
    show n.size + 1 ≤ _
    simp [Rows.uptoBulk]⟩
theorem OpensB.slice {P : Program} {T E : TypeId} {α : Type} [Rep α] [Bulk α] [Inhabited α] (h : P.underlying T = some (.slice E)) (hc : P.cellsOf T = 1) (hp : 0 < Rep.sz α) (he : OpensB P E α) : OpensB P T (List α) := by
  refine ⟨hc, fun enc w spare held fuel cs d ps hd => ?_⟩
  rcases open_slice h hd with ⟨rfl, _⟩ | ⟨a, len, cap, m, n, D, Pl, rfl, _, hl, hm, hmm, hx, hi⟩
  · exact ⟨[], ⟨none, 0, rfl, by simp, fun _ => rfl, Arr.nil _ _ _⟩, bulk_one d⟩
  · rw [he.1] at hi
    have hlm : len ≤ m := by rw [hmm]; split <;> omega
    obtain ⟨f, hf⟩ := choose_lt (α := α) (n := len) (p := fun i x => ∃ cs', w.cells? 0 (a.add (i * Rep.sz α)) (Rep.sz α) = some cs' ∧ Rep.cells (· < w.heap.size) w cs' x ∧ Bulk.bulk x ≤ Rows.uptoBulk (D i)) (fun i hil => by
      obtain ⟨cs', h1, h2⟩ := hi i (by omega)
      obtain ⟨x, hx, hb⟩ := he.2 enc w spare held n cs' _ _ h2
      exact ⟨x, cs', h1, hx, hb⟩)
    refine ⟨(List.range len).map f, ⟨some a, cap, by simp, by simpa using hl, by simp, by simp; omega, ?_⟩, ?_⟩
    · by_cases h0 : len = 0
      · exact .inl (by simp [h0])
      · obtain ⟨cs0, h1, _, _⟩ := hf 0 (by omega)
        obtain ⟨_, hlen, hat⟩ := World.cells?_some h1
        have h00 := hat 0 hp
        obtain ⟨b, off, spot⟩ := a
        have hsome : ∃ v, w.cell? ⟨b, off, spot⟩ = some v := by
          rw [show cs0[0]? = some (cs0[0]'(by omega)) from List.getElem?_eq_getElem (by omega)] at h00
          exact ⟨_, by simpa [Addr.add] using h00⟩
        obtain ⟨v, hv⟩ := hsome
        have hsp : spot = none := by simpa using World.cell?_spot hv
        subst hsp
        refine .inr ⟨b, off, rfl, World.block_lt_of_cell? w _ hv, fun k x hkx => ?_⟩
        have hk : k < len := by
          have := (List.getElem?_eq_some_iff.1 hkx).1; simpa using this
        obtain ⟨cs', h1, h2, _⟩ := hf k hk
        have hx : x = f k := by simp [hk] at hkx; exact hkx.symm
        subst hx
        obtain ⟨_, hlen, hat⟩ := World.cells?_some h1
        refine ⟨cs', h2, fun j hj => ?_⟩
        rw [← hat j hj, Go.Deep.add_add, add_plain, Nat.add_assoc]
    · injection hx with hd' _
      subst hd'
      have hs := sumOf_le Bulk.bulk Rows.uptoBulk f D (List.range len) (fun i hi => by
        obtain ⟨cs', _, _, hb⟩ := hf i (by simpa using hi)
        exact hb)
      show sumOf Bulk.bulk _ + 1 ≤ _
      simp only [Rows.uptoBulk, bulk_all]
      omega

def OpensBAt (P : Program) (fs : List (Nat × TypeId)) (o : Nat) (β : Type) [Rep β] [Bulk β] : Prop :=
  ∀ {H : Type} (enc : TypeId × Value → H) (w : World) (spare : Nat → Bool) (held : Bool) (fuel : Nat) (cs : List Value) (ds : List (DataW H)), cs.length = o + Rep.sz β → ds.length = fs.length →
    (∀ (i : Nat) (f : Nat × TypeId), fs[i]? = some f → ∃ d ps, ds[i]? = some d ∧ DataW.trod enc P w 0 spare held fuel f.2 ((cs.drop f.1).take (P.cellsOf f.2)) = some (d, ps)) → ∃ x : β, Rep.cells (· < w.heap.size) w (cs.drop o) x ∧ Bulk.bulk x ≤ Rows.uptoBulkAll ds
theorem OpensBAt.last {P : Program} {T : TypeId} (o : Nat) {α : Type} [Rep α] [Bulk α] (h : OpensB P T α) : OpensBAt P [(o, T)] o α := by
  intro H enc w spare held fuel cs ds hl hdl hf
  obtain ⟨d, ps, hd, hy⟩ := hf 0 (o, T) rfl
  obtain ⟨x, hx, hb⟩ := h.2 enc w spare held fuel _ d ps hy
  refine ⟨x, ?_, ?_⟩
  · rw [h.1, List.take_of_length_le (by simp; omega)] at hx
    exact hx
  · rw [bulk_all]
    exact Nat.le_trans hb (sumOf_mem (List.mem_of_getElem? hd))
theorem OpensBAt.cons {P : Program} {T : TypeId} {fs : List (Nat × TypeId)} (o o' : Nat) {α β : Type} [Rep α] [Rep β] [Bulk α] [Bulk β] (h : OpensB P T α) (ht : OpensBAt P fs o' β) (ho : o + Rep.sz α = o') : OpensBAt P ((o, T) :: fs) o (α × β) := by
  subst ho
  intro H enc w spare held fuel cs ds hl hdl hf
  have hl' : cs.length = o + (Rep.sz α + Rep.sz β) := hl
  obtain ⟨d, ps, hd, hy⟩ := hf 0 (o, T) rfl
  match ds, hd, hdl with
  | d' :: ds', hd, hdl =>
    simp at hd
    subst hd
    obtain ⟨x, hx, hb⟩ := h.2 enc w spare held fuel _ d' ps hy
    obtain ⟨y, hy, hb2⟩ := ht enc w spare held fuel cs ds' (by omega) (by simpa using hdl) (fun i g hg => by
      obtain ⟨d2, ps2, h1, h2⟩ := hf (i + 1) g (by simpa using hg)
      exact ⟨d2, ps2, by simpa using h1, h2⟩)
    rw [h.1] at hx
    refine ⟨(x, y), ⟨_, _, hx, hy, ?_⟩, ?_⟩
    · rw [← List.drop_drop, List.take_append_drop]
    · simp only [Rows.uptoBulkAll]
      show Bulk.bulk x + Bulk.bulk y ≤ _
      omega
theorem OpensB.struct {P : Program} {T : TypeId} {fs : Array Field} {β : Type} [Rep β] [Bulk β] (h : P.underlying T = some (.struct fs)) (hc : P.cellsOf T = Rep.sz β) {l : List (Nat × TypeId)} (ht : OpensBAt P l 0 β) (hl : fs.toList.map (fun f => (f.offset, f.type)) = l) : OpensB P T β := by
  subst hl
  refine ⟨hc, fun enc w spare held fuel cs d ps hd => ?_⟩
  obtain ⟨xs, n, _, hx, hl, hlen, hf⟩ := DataW.trod_struct h hd
  injection hx with hd' _
  subst hd'
  have := ht enc w spare held n cs (xs.map (·.1)) (by omega) (by simp [hlen]) (fun i f hfi => by
    rw [List.getElem?_map] at hfi
    cases hg : fs.toList[i]? with
    | none => rw [hg] at hfi; cases hfi
    | some g =>
      rw [hg] at hfi
      simp at hfi
      subst hfi
      have hi' : fs[i]? = some g := by simpa using hg
      have hlt : i < fs.size := (Array.getElem?_eq_some_iff.1 hi').1
      have hlt' : i < xs.length := by omega
      refine ⟨xs[i].1, xs[i].2, by simp [hlt'], ?_⟩
      rw [hf i g hi']
      simp [hlt'])
  obtain ⟨x, hx, hb⟩ := this
  refine ⟨x, by simpa using hx, ?_⟩
  simp only [Rows.uptoBulk]
  omega
theorem OpensB.via {P : Program} {T : TypeId} {α β : Type} [Rep β] [Bulk β] (f : α → β) (hf : ∀ y, ∃ x, f x = y) (h : OpensB P T β) : @OpensB P T α (Rep.via f) (Bulk.via f) :=
  ⟨h.1, fun enc w spare held fuel cs d ps hd => by
    obtain ⟨y, hy, hb⟩ := h.2 enc w spare held fuel cs d ps hd
    obtain ⟨x, rfl⟩ := hf y
    exact ⟨x, hy, hb⟩⟩

/-- A parameter's value: of its type's form, read as some data of bulk at most N. -/
def ArgBulk (P : Program) (W : World) (N : Nat) (T : TypeId) (v : Value) : Prop :=
  ∃ (H : Type) (enc : TypeId × Value → H) (base : Nat) (d : DataW H) (p : List MemPlace), Value.okWide P W .any base T v ∧ DataW.Trod enc P W 0 (fun _ => true) true T v d p ∧ Rows.uptoBulk d ≤ N
theorem ArgBulk.read {P : Program} {W : World} {N : Nat} {T : TypeId} {v : Value} (h : ArgBulk P W N T v) : ArgRead P W T v := by
  obtain ⟨H, enc, base, d, p, h1, h2, -⟩ := h
  exact ⟨H, enc, base, d, p, h1, h2⟩
def ArgsBulk (P : Program) (W : World) (N : Nat) : List TypeId → List Value → Prop
  | [], [] => True
  | T :: ts, v :: vs => ArgBulk P W N T v ∧ ArgsBulk P W N ts vs
  | _, _ => False
theorem argsBulk_of {H : Type} {enc : TypeId × Value → H} {P : Program} {W : World} {N base : Nat} : ∀ (ts : List TypeId) (vs : List Value) (ds : List (DataW H)) (p : List MemPlace),
    (∀ (j : Nat) t v, ts[j]? = some t → vs[j]? = some v → Value.okWide P W .any base t v) → DataW.TrodAll enc P W 0 (fun _ => true) true ts vs ds p → Rows.uptoBulkAll ds ≤ N → ArgsBulk P W N ts vs
  | [], [], _, _, _, _, _ => trivial
  | t :: ts, v :: vs, ds, p, hv, h, hn => by
    obtain ⟨v', vs', d, ds', p', q, he, rfl, rfl, h0, h1⟩ := trodAll_cons h
    simp only [List.cons.injEq] at he
    obtain ⟨rfl, rfl⟩ := he
    simp only [Rows.uptoBulkAll] at hn
    exact ⟨⟨H, enc, base, d, p', hv 0 t v rfl rfl, h0, by omega⟩, argsBulk_of ts vs ds' q (fun j t' v' h1 h2 => hv (j + 1) t' v' (by simpa using h1) (by simpa using h2)) h1 (by omega)⟩
  | [], v :: vs, ds, _, _, h, _ => by cases ds <;> exact h.elim
  | t :: ts, [], ds, _, _, h, _ => by cases ds <;> exact h.elim
theorem ArgsBulk.one {P : Program} {W : World} {N : Nat} {T : TypeId} {args : Array Value} (h : ArgsBulk P W N [T] args.toList) : ∃ v, args = #[v] ∧ ArgBulk P W N T v := by
  obtain ⟨l⟩ := args
  match l, h with
  | [v], h => exact ⟨v, rfl, h.1⟩
theorem ArgsBulk.two {P : Program} {W : World} {N : Nat} {T T' : TypeId} {args : Array Value} (h : ArgsBulk P W N [T, T'] args.toList) : ∃ v v', args = #[v, v'] ∧ ArgBulk P W N T v ∧ ArgBulk P W N T' v' := by
  obtain ⟨l⟩ := args
  match l, h with
  | [v, v'], h => exact ⟨v, v', rfl, h.1, h.2.1⟩
theorem ArgsBulk.three {P : Program} {W : World} {N : Nat} {T T' T'' : TypeId} {args : Array Value} (h : ArgsBulk P W N [T, T', T''] args.toList) : ∃ v v' v'', args = #[v, v', v''] ∧ ArgBulk P W N T v ∧ ArgBulk P W N T' v' ∧ ArgBulk P W N T'' v'' := by
  obtain ⟨l⟩ := args
  match l, h with
  | [v, v', v''], h => exact ⟨v, v', v'', rfl, h.1, h.2.1, h.2.2.1⟩
theorem ArgsBulk.four {P : Program} {W : World} {N : Nat} {T T' T'' T3 : TypeId} {args : Array Value} (h : ArgsBulk P W N [T, T', T'', T3] args.toList) : ∃ v v' v'' v3, args = #[v, v', v'', v3] ∧ ArgBulk P W N T v ∧ ArgBulk P W N T' v' ∧ ArgBulk P W N T'' v'' ∧ ArgBulk P W N T3 v3 := by
  obtain ⟨l⟩ := args
  match l, h with
  | [v, v', v'', v3], h => exact ⟨v, v', v'', v3, rfl, h.1, h.2.1, h.2.2.1, h.2.2.2.1⟩
theorem ArgBulk.slice {P : Program} {W : World} {N : Nat} {T E : TypeId} {α : Type} [Rep α] [Bulk α] {v : Value} (ht : P.underlying T = some (.slice E)) (ho : OpensB P T (List α)) (h : ArgBulk P W N T v) :
    ∃ a xs cap, v = .slice a xs.length cap ∧ xs.length ≤ cap ∧ (a = none → cap = 0) ∧ Arr (α := α) (· < W.heap.size) W a xs ∧ Bulk.bulk xs ≤ N := by
  obtain ⟨H, enc, base, d, p, hv, ⟨n, hd⟩, hN⟩ := h
  obtain ⟨a, len, cap, rfl⟩ := okWide_slice ht hv
  obtain ⟨xs, ⟨a', cap', h1, h2⟩, hb⟩ := ho.2 enc W _ _ n _ _ _ hd
  simp [Value.cells] at h1
  obtain ⟨rfl, rfl, rfl⟩ := h1
  exact ⟨a, xs, cap, rfl, h2.1, h2.2.1, h2.2.2, Nat.le_trans hb hN⟩
theorem ArgBulk.struct {P : Program} {W : World} {N : Nat} {T : TypeId} {fs : Array Field} {α : Type} [Rep α] [Bulk α] {v : Value} (ht : P.underlying T = some (.struct fs)) (ho : OpensB P T α) (h : ArgBulk P W N T v) :
    ∃ cs x, v = .agg cs.toArray ∧ Rep.cells (α := α) (· < W.heap.size) W cs x ∧ Bulk.bulk x ≤ N := by
  obtain ⟨H, enc, base, d, p, hv, ⟨n, hd⟩, hN⟩ := h
  obtain ⟨cs, rfl, _⟩ := okWide_struct ht hv
  obtain ⟨x, hx, hb⟩ := ho.2 enc W _ _ n _ _ _ hd
  exact ⟨cs.toList, x, by simp, by simpa [Value.cells] using hx, Nat.le_trans hb hN⟩

theorem law_lift_upto {C : Checked} {os : Os} {f : FuncId} {fn : Func} {s : ChangeSpec} {H : Type} {enc : TypeId × Value → H} {tb : TypeId} {F : Stop.Interp} (hl : laidOutB C.prog = true) (own : ownKnob C.prog.godebug = none) (started : os.Started)
    (noInit : C.prog.inits.idxOf? f = none) (hfn : C.prog.funcs[f]? = some fn)
    (hr : (fn.params.toList.all fun t => C.prog.readableRec t && decide (t < C.prog.types.size)) = true) (hres : fn.resultTypes = #[tb]) (htb : C.prog.underlying tb = some .bool)
    (hvars : s.vars = []) (hs : ∀ ds : List (DataW H), ds.length = fn.params.toList.length → s.fn H ds = { results := [.lit (.bool true)], args := ds })
    (witness : ∃ (w : World) (tape : Tape) (i : Input), w.os = os ∧ (w.forCall tape i).Shaped C.prog ∧ i.vars = [] ∧ Input.okWide C.prog (w.forCall tape i) .any w.heap.size f i ∧
      (Rows.OpenSpec.upto s).pre6 enc C.prog fn [] false (w.forCall tape i).memory i.args ∧ ({} : Assume).holds C.prog (lone (Frame.enter C.prog f i.args .normal) [] (w.forCall tape i)))
    (walk : ∀ (W : World) (args : Array Value), ArgsBulk C.prog W 1048576 fn.params.toList args.toList → Calls C.prog f args W fun e W' => e = .returned (.bool true) ∧ Below W.heap.size W W') :
    ReturnsInHanded {} C os f .any ((Rows.OpenSpec.upto s).pre6 enc C.prog fn [] false) (((Rows.OpenSpec.upto s).at F).post enc C.prog fn false true false false) := by
  refine returnsInHanded_of_cond (s := Rows.OpenSpec.upto s) (k := Rows.uptoSmall) rfl own started noInit hfn witness ?_
  intro W base args ds gs before hval hW _ hk _
  have hW' := hW
  obtain ⟨p, q, hA, hV, rfl, hfz, hnd⟩ := hW
  have hV' : DataW.TrodVars enc C.prog W _ s.vars gs q := hV
  rw [hvars] at hV'
  obtain ⟨rfl, rfl⟩ := trodVars_none hV'
  have hlen : ds.length = fn.params.toList.length := trodAll_length _ _ _ _ hA
  have hbk : Rows.uptoBulkAll ds ≤ 1048576 := by
    rw [List.append_nil] at hk
    exact of_decide_eq_true hk
  have hread := argsBulk_of fn.params.toList args.toList ds p (fun j t v h1 h2 => hval j t v (by simpa using h1) (by simpa using h2)) hA hbk
  refine (walk W args hread).mono fun e W' ⟨he, hb⟩ => ⟨_, he, ?_⟩
  have e1 := hs ds hlen
  show s.post enc C.prog fn false true false false W args _ W'
  refine ⟨ds, [], _, [], p, [], hW', ?_, ?_, ?_, hb.frame _, fun h => by cases h⟩
  · rw [List.append_nil, e1, hres]
    exact trodAll_mk1 (shut_bool htb _)
  · rw [List.append_nil, e1]
    exact trodAll_below hl hb _ _ _ _ hr hA
  · rw [hvars]
    show DataW.TrodVars enc C.prog W' _ [] (s.fn H (ds ++ [])).vars []
    rw [List.append_nil, e1]
    rfl
end Go.Bk
