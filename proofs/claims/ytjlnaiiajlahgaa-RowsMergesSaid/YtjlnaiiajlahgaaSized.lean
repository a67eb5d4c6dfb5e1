/- General: the frame round a law's walk that leans on the form's own reach: each slice that came in takes no more than so many bytes. No program is named here. -/
import Derived.Test.YtjlnaiiajlahgaaMem
import Derived.SizedLaws
set_option linter.unusedVariables false
set_option linter.unusedSimpArgs false
namespace Go.Bk
open Go.RowKit Go.ChangeShapes Go.WideShapes Go.Deep

/-- A parameter's value, read as some data within the form's reach. -/
def ArgSized (P : Program) (W : World) (T : TypeId) (v : Value) : Prop :=
  ∃ (H : Type) (enc : TypeId × Value → H) (base : Nat) (d : DataW H) (p : List MemPlace), Value.okWide P W .any base T v ∧ DataW.Trod enc P W 0 (fun _ => true) true T v d p ∧ (DataW.weights P T d).all (· ≤ reachBytes) = true

theorem ArgSized.read {P : Program} {W : World} {T : TypeId} {v : Value} (h : ArgSized P W T v) : ArgRead P W T v := by
  obtain ⟨H, enc, base, d, p, h1, h2, -⟩ := h
  exact ⟨H, enc, base, d, p, h1, h2⟩
theorem ArgSized.len {P : Program} {W : World} {T E : TypeId} {a : Option Addr} {n c : Nat} (h : ArgSized P W T (.slice a n c)) (ht : P.underlying T = some (.slice E)) : n * P.bytesOf E ≤ reachBytes := by
  obtain ⟨H, enc, base, d, p, -, ⟨f, h2⟩, h3⟩ := h
  rcases open_slice ht h2 with ⟨h, -⟩ | ⟨a', len, cap, m, k, D, Pl, he, -, hl, -, hm, hx, -⟩
  · simp [Value.cells] at h
    rw [h.2.1]; simp
  · simp [Value.cells] at he
    obtain ⟨-, rfl, -⟩ := he
    injection hx with hd _
    subst hd
    have := List.all_eq_true.1 h3 (((List.range n).map D).length * P.bytesOf E + (((List.range (m - n)).map fun j => D (n + j)).length) * P.bytesOf E) (by
      rw [← Nat.add_mul]
      simp [DataW.weights, ht])
    simp at this
    omega

def ArgsSized (P : Program) (W : World) : List TypeId → List Value → Prop
  | [], [] => True
  | T :: ts, v :: vs => ArgSized P W T v ∧ ArgsSized P W ts vs
  | _, _ => False

theorem argsSized_of {H : Type} {enc : TypeId × Value → H} {P : Program} {W : World} {base : Nat} : ∀ (ts : List TypeId) (vs : List Value) (ds : List (DataW H)) (p : List MemPlace),
    (∀ (j : Nat) t v, ts[j]? = some t → vs[j]? = some v → Value.okWide P W .any base t v) → DataW.TrodAll enc P W 0 (fun _ => true) true ts vs ds p → (DataW.weightsEach P ts ds).all (· ≤ reachBytes) = true → ArgsSized P W ts vs
  | [], [], _, _, _, _, _ => trivial
  | t :: ts, v :: vs, ds, p, hv, h, hz => by
    obtain ⟨v', vs', d, ds', p', q, he, rfl, rfl, h0, h1⟩ := trodAll_cons h
    simp only [List.cons.injEq] at he
    obtain ⟨rfl, rfl⟩ := he
    have hz' : (DataW.weights P t d).all (· ≤ reachBytes) = true ∧ (DataW.weightsEach P ts ds').all (· ≤ reachBytes) = true := by
      rw [DataW.weightsEach, List.all_append, Bool.and_eq_true] at hz
      exact hz
    exact ⟨⟨H, enc, base, d, p', hv 0 t v rfl rfl, h0, hz'.1⟩, argsSized_of ts vs ds' q (fun j t' v' h1 h2 => hv (j + 1) t' v' (by simpa using h1) (by simpa using h2)) h1 hz'.2⟩
  | [], v :: vs, ds, _, _, h, _ => by cases ds <;> exact h.elim
  | t :: ts, [], ds, _, _, h, _ => by cases ds <;> exact h.elim

theorem ArgsSized.five {P : Program} {W : World} {T T' T'' T3 T4 : TypeId} {args : Array Value} (h : ArgsSized P W [T, T', T'', T3, T4] args.toList) : ∃ v v' v'' v3 v4, args = #[v, v', v'', v3, v4] ∧ ArgSized P W T v ∧ ArgSized P W T' v' ∧ ArgSized P W T'' v'' ∧ ArgSized P W T3 v3 ∧ ArgSized P W T4 v4 := by
  obtain ⟨l⟩ := args
  match l, h with
  | [v, v', v'', v3, v4], h => exact ⟨v, v', v'', v3, v4, rfl, h.1, h.2.1, h.2.2.1, h.2.2.2.1, h.2.2.2.2.1⟩

theorem weights_left {H : Type} {P : Program} : ∀ (ts us : List TypeId) (ds : List (DataW H)), ds.length = ts.length → (DataW.weightsEach P (ts ++ us) ds).all (· ≤ reachBytes) = true → (DataW.weightsEach P ts ds).all (· ≤ reachBytes) = true
  | [], us, ds, _, _ => by cases ds <;> simp [DataW.weightsEach]
  | t :: ts, us, [], h, _ => by simp at h
  | t :: ts, us, d :: ds, h, hz => by
    rw [List.cons_append, DataW.weightsEach, List.all_append, Bool.and_eq_true] at hz
    rw [DataW.weightsEach, List.all_append, Bool.and_eq_true]
    exact ⟨hz.1, weights_left ts us ds (by simpa using h) hz.2⟩

theorem law_lift_sized {C : Checked} {os : Os} {f : FuncId} {fn : Func} {s : ChangeSpec} {H : Type} {enc : TypeId × Value → H} {tb : TypeId} (hl : laidOutB C.prog = true) (own : ownKnob C.prog.godebug = none) (started : os.Started)
    (noInit : C.prog.inits.idxOf? f = none) (hfn : C.prog.funcs[f]? = some fn)
    (hr : (fn.params.toList.all fun t => C.prog.readableRec t && decide (t < C.prog.types.size)) = true) (hres : fn.resultTypes = #[tb]) (htb : C.prog.underlying tb = some .bool)
    (hvars : s.vars = []) (hs : ∀ ds : List (DataW H), ds.length = fn.params.toList.length → s.fn H ds = { results := [.lit (.bool true)], args := ds })
    (witness : ∃ (w : World) (tape : Tape) (i : Input), w.os = os ∧ (w.forCall tape i).Shaped C.prog ∧ i.vars = [] ∧ Input.okWide C.prog (w.forCall tape i) .any w.heap.size f i ∧
      s.pre6 enc C.prog fn [] false (w.forCall tape i).memory i.args ∧ ({} : Assume).holds C.prog (lone (Frame.enter C.prog f i.args .normal) [] (w.forCall tape i)))
    (walk : ∀ (W : World) (args : Array Value), ArgsSized C.prog W fn.params.toList args.toList → Calls C.prog f args W fun e W' => e = .returned (.bool true) ∧ Below W.heap.size W W') :
    ReturnsInHanded {} C os f .any (s.pre6 enc C.prog fn [] false) (s.post enc C.prog fn false true false false) := by
  refine returnsInHanded_of_change_sized own started noInit hfn witness ?_
  intro W base args ds gs before hval hW _ hz _
  have hW' := hW
  obtain ⟨p, q, hA, hV, rfl, hfz, hnd⟩ := hW
  rw [hvars] at hV
  obtain ⟨rfl, rfl⟩ := trodVars_none hV
  have hlen : ds.length = fn.params.toList.length := trodAll_length _ _ _ _ hA
  have hz' : (DataW.weightsEach C.prog fn.params.toList ds).all (· ≤ reachBytes) = true := by
    rw [List.append_nil] at hz
    exact weights_left fn.params.toList _ ds hlen hz
  have hread := argsSized_of fn.params.toList args.toList ds p (fun j t v h1 h2 => hval j t v (by simpa using h1) (by simpa using h2)) hA hz'
  refine (walk W args hread).mono fun e W' ⟨he, hb⟩ => ⟨_, he, ?_⟩
  have e1 := hs ds hlen
  refine ⟨ds, [], _, [], p, [], hW', ?_, ?_, ?_, hb.frame _, fun h => by cases h⟩
  · rw [List.append_nil, e1, hres]
    exact trodAll_mk1 (shut_bool htb _)
  · rw [List.append_nil, e1]
    exact trodAll_below hl hb _ _ _ _ hr hA
  · rw [hvars]
    show DataW.TrodVars enc C.prog W' _ [] (s.fn H (ds ++ [])).vars []
    rw [List.append_nil, e1]
    rfl
end Go.Bk
