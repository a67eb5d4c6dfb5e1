/- One turn ahead: a trace while it grows. -/
import Derived.Test.YtekofpigmggbbaaDoorQPeelC
import Derived.Test.YtekofpigmggbbaaDoorQPeelPlainB
import Derived.Test.YtekofpigmggbbaaDoorQPass
import Derived.Test.YtekofpigmggbbaaDoorQSteps
import Derived.Deep.DeepCutAuto
import Derived.Deep.RegionLaw
import Derived.StillTailTactics
set_option linter.unusedVariables false
set_option linter.unusedSimpArgs false
namespace Go.Proofs.YtekofpigmggbbaaDoor.peel
open Go.Bk Go.RowKit Go.Proofs.YtekofpigmggbbaaDoor.ir Go.Proofs.YtekofpigmggbbaaDoor.chk Go.Proofs.YtekofpigmggbbaaDoor.cut Go.Proofs.YtekofpigmggbbaaDoor.pas

/-- The blocks that are neither the trace's own cells nor its two rows. -/
def SX (N0 N1 go : Nat) (W : World) (vI vE : Value) (k : Nat) : Prop := k ≠ go ∧ k < W.heap.size ∧ vI.ownBlock ≠ some k ∧ vE.ownBlock ≠ some k ∧ (k < N0 ∨ N1 ≤ k)
/-- A trace under way: its cells lie at block go, its instructions and its exits each in a row of their own. -/
structure PW (w : World) (N0 go : Nat) (u0 u1 u2 u3 v0 v1 v2 v3 : Value) (W : World) (vI vE : Value) (t : Api.TTrace) : Prop where
  row : Row W go 34 #[.int .i64 t.Fn, .int .i64 t.At, .int .i64 t.Loop, vI, vE, u0, u1, u2, u3, v0, v1, v2, v3]
  ins : Own (fun _ => False) W w.heap.size 43 vI t.Ins
  exs : Own (SX N0 w.heap.size go W vI vE) W w.heap.size 32 vE t.Exits
  apart : Apart vI vE
  turn : Rep.cells (SX N0 w.heap.size go W vI vE) W [u0, u1, u2, u3] t.Turn
  back : Rep.cells (SX N0 w.heap.size go W vI vE) W [v0, v1, v2, v3] t.Back
  ne : vI.ownBlock ≠ some go ∧ vE.ownBlock ≠ some go
  below : Below w.heap.size w W
  far : w.heap.size ≤ go
section
variable {w W W' : World} {N0 go : Nat} {u0 u1 u2 u3 v0 v1 v2 v3 vI vE vI' vE' : Value} {t : Api.TTrace}
theorem SX.mono (hs : W.heap.size ≤ W'.heap.size) : ∀ k, SX N0 w.heap.size go W vI vE k → SX N0 w.heap.size go W' vI vE k := fun _ h => ⟨h.1, Nat.lt_of_lt_of_le h.2.1 hs, h.2.2⟩
theorem PW.call (h : PW w N0 go u0 u1 u2 u3 v0 v1 v2 v3 W vI vE t) (hb : Below W.heap.size W W') : PW w N0 go u0 u1 u2 u3 v0 v1 v2 v3 W' vI vE t := by
  refine ⟨h.row.keep (hb.block _ h.row.lt), h.ins.below hb (fun _ h => h.elim), ?_, h.apart, ?_, ?_, h.ne, h.below.trans (hb.mono h.below.size), h.far⟩
  · exact (own_same' h.exs (fun b hb' => hb.block b (h.exs.lt b hb').2) (fun b hb' => hb.block b hb'.2.1)).mono (SX.mono hb.size)
  · exact Rep.mono (SX.mono hb.size) (Rep.keep (fun b hb' => hb.block b hb'.2.1) h.turn)
  · exact Rep.mono (SX.mono hb.size) (Rep.keep (fun b hb' => hb.block b hb'.2.1) h.back)
theorem PW.lt (h : PW w N0 go u0 u1 u2 u3 v0 v1 v2 v3 W vI vE t) : go < W.heap.size := h.row.lt
/-- An instruction more. -/
theorem PW.addI (h : PW w N0 go u0 u1 u2 u3 v0 v1 v2 v3 W vI vE t) {z : Api.TIns} (ho : Own (fun _ => False) W' w.heap.size 43 vI' (t.Ins ++ [z])) (hg : W.grownBy W' vI.ownBlock) (hst : Stay W vI vI') :
    PW w N0 go u0 u1 u2 u3 v0 v1 v2 v3 (W'.setCell ⟨go, 3, none⟩ vI') vI' vE ⟨t.Fn, t.At, t.Loop, t.Ins ++ [z], t.Exits, t.Turn, t.Back⟩ ∧ W'.cell? ⟨go, 3, none⟩ = some vI ∧ W'.frozen? ⟨go, 3, none⟩ = false ∧ go < W'.heap.size := by
  have hsz := hg.size
  have hlt := h.row.lt
  have hh : ∀ c, c ≠ go → (W'.setCell ⟨go, 3, none⟩ vI').heap[c]? = W'.heap[c]? := fun c hc => blk_setCell_other _ _ _ hc
  have hk : ∀ c, c < W.heap.size → vI.ownBlock ≠ some c → W'.heap[c]? = W.heap[c]? := fun c hc hn => hg.block c hc (fun e => hn e.symm)
  have hrow : Row W' go 34 #[.int .i64 t.Fn, .int .i64 t.At, .int .i64 t.Loop, vI, vE, u0, u1, u2, u3, v0, v1, v2, v3] := h.row.keep (hk go h.row.lt h.ne.1)
  have hx : ∀ c, SX N0 w.heap.size go W vI vE c → SX N0 w.heap.size go (W'.setCell ⟨go, 3, none⟩ vI') vI' vE c := fun c hc => ⟨hc.1, by rw [size_setCell]; have := hc.2.1; omega, fun e => by
    rcases hst c e with h1 | h1
    · exact hc.2.2.1 h1
    · have := hc.2.1; omega, hc.2.2.2⟩
  have hkx : ∀ c, SX N0 w.heap.size go W vI vE c → (W'.setCell ⟨go, 3, none⟩ vI').heap[c]? = W.heap[c]? := fun c hc => (hh c hc.1).trans (hk c hc.2.1 hc.2.2.1)
  have hneI : vI'.ownBlock ≠ some go := fun e => by
    rcases hst go e with h1 | h1
    · exact h.ne.1 h1
    · omega
  refine ⟨⟨hrow.blk.set 3 vI', own_same' ho (fun c hc => hh c fun e => hneI (by rw [← e]; exact hc)) (fun _ h => h.elim), ?_, h.apart.moved hst (fun k hk => (h.exs.lt k hk).2), Rep.mono hx (Rep.keep hkx h.turn), Rep.mono hx (Rep.keep hkx h.back), ⟨hneI, h.ne.2⟩, ?_, h.far⟩, hrow.cell (j := 3) rfl, hrow.blk.frozen 3, hrow.lt⟩
  · exact (own_same' h.exs (fun c hc => (hh c fun e => h.ne.2 (by rw [← e]; exact hc)).trans (hk c (h.exs.lt c hc).2 fun e => h.apart c e hc)) hkx).mono hx
  · exact (((Wr.of_below (wb := w.heap.size) h.below).grown hg h.below.size (fun k hk => (h.ins.lt k hk).1)).set (.inr h.far) _).below (Nat.le_refl _)
/-- An exit more. -/
theorem PW.addE (h : PW w N0 go u0 u1 u2 u3 v0 v1 v2 v3 W vI vE t) {z : Api.TExit} (ho : Own (SX N0 w.heap.size go W vI vE) W' w.heap.size 32 vE' (t.Exits ++ [z])) (hg : W.grownBy W' vE.ownBlock) (hst : Stay W vE vE') :
    PW w N0 go u0 u1 u2 u3 v0 v1 v2 v3 (W'.setCell ⟨go, 4, none⟩ vE') vI vE' ⟨t.Fn, t.At, t.Loop, t.Ins, t.Exits ++ [z], t.Turn, t.Back⟩ ∧ W'.cell? ⟨go, 4, none⟩ = some vE ∧ W'.frozen? ⟨go, 4, none⟩ = false ∧ go < W'.heap.size := by
  have hsz := hg.size
  have hlt := h.row.lt
  have hh : ∀ c, c ≠ go → (W'.setCell ⟨go, 4, none⟩ vE').heap[c]? = W'.heap[c]? := fun c hc => blk_setCell_other _ _ _ hc
  have hk : ∀ c, c < W.heap.size → vE.ownBlock ≠ some c → W'.heap[c]? = W.heap[c]? := fun c hc hn => hg.block c hc (fun e => hn e.symm)
  have hrow : Row W' go 34 #[.int .i64 t.Fn, .int .i64 t.At, .int .i64 t.Loop, vI, vE, u0, u1, u2, u3, v0, v1, v2, v3] := h.row.keep (hk go h.row.lt h.ne.2)
  have hx : ∀ c, SX N0 w.heap.size go W vI vE c → SX N0 w.heap.size go (W'.setCell ⟨go, 4, none⟩ vE') vI vE' c := fun c hc => ⟨hc.1, by rw [size_setCell]; have := hc.2.1; omega, hc.2.2.1, (fun e => by
    rcases hst c e with h1 | h1
    · exact hc.2.2.2.1 h1
    · have := hc.2.1; omega), hc.2.2.2.2⟩
  have hkx : ∀ c, SX N0 w.heap.size go W vI vE c → (W'.setCell ⟨go, 4, none⟩ vE').heap[c]? = W.heap[c]? := fun c hc => (hh c hc.1).trans (hk c hc.2.1 hc.2.2.2.1)
  have hneE : vE'.ownBlock ≠ some go := fun e => by
    rcases hst go e with h1 | h1
    · exact h.ne.2 h1
    · omega
  refine ⟨⟨hrow.blk.set 4 vE', ?_, ?_, (h.apart.symm.moved hst (fun k hk => (h.ins.lt k hk).2)).symm, Rep.mono hx (Rep.keep hkx h.turn), Rep.mono hx (Rep.keep hkx h.back), ⟨h.ne.1, hneE⟩, ?_, h.far⟩, hrow.cell (j := 4) rfl, hrow.blk.frozen 4, hrow.lt⟩
  · exact own_same' h.ins (fun c hc => (hh c fun e => h.ne.1 (by rw [← e]; exact hc)).trans (hk c (h.ins.lt c hc).2 fun e => h.apart c hc e)) (fun _ h => h.elim)
  · exact own_same' (ho.mono hx) (fun c hc => hh c fun e => hneE (by rw [← e]; exact hc)) (fun c hc => hh c hc.1)
  · exact (((Wr.of_below (wb := w.heap.size) h.below).grown hg h.below.size (fun k hk => (h.exs.lt k hk).1)).set (.inr h.far) _).below (Nat.le_refl _)
/-- The trace, read out of its cells. -/
theorem PW.rep (h : PW w N0 go u0 u1 u2 u3 v0 v1 v2 v3 W vI vE t) (h1 : I64 t.Fn) (h2 : I64 t.At) (h3 : I64 t.Loop) : Rep.cells (fun k => k < W.heap.size ∧ (k < N0 ∨ w.heap.size ≤ k)) W [.int .i64 t.Fn, .int .i64 t.At, .int .i64 t.Loop, vI, vE, u0, u1, u2, u3, v0, v1, v2, v3] t := by
  have i1 : Rep.cells (fun k => k < W.heap.size ∧ (k < N0 ∨ w.heap.size ≤ k)) W [vI] t.Ins := by
    obtain ⟨a, c, rfl, q1, q2, q3⟩ := h.ins.arr
    exact ⟨a, c, rfl, q1, q2, q3.mono fun k hk' => hk'.elim False.elim fun hk' => ⟨hk'.2, .inr hk'.1⟩⟩
  have i2 : Rep.cells (fun k => k < W.heap.size ∧ (k < N0 ∨ w.heap.size ≤ k)) W [vE] t.Exits := by
    have hlt := h.exs.lt
    obtain ⟨a, c, e, q1, q2, q3⟩ := h.exs.arr
    rw [e]
    exact ⟨a, c, rfl, q1, q2, q3.mono fun k hk' => hk'.elim (fun hk' => ⟨hk'.2.1, hk'.2.2.2.2⟩) fun hk' => ⟨hk'.2, .inr hk'.1⟩⟩
  have i3 : Rep.cells (fun k => k < W.heap.size ∧ (k < N0 ∨ w.heap.size ≤ k)) W [u0, u1, u2, u3] t.Turn := Rep.mono (fun k hk' => ⟨hk'.2.1, hk'.2.2.2.2⟩) h.turn
  have i4 : Rep.cells (fun k => k < W.heap.size ∧ (k < N0 ∨ w.heap.size ≤ k)) W [v0, v1, v2, v3] t.Back := Rep.mono (fun k hk' => ⟨hk'.2.1, hk'.2.2.2.2⟩) h.back
  exact ⟨_, _, ⟨rfl, h1⟩, ⟨_, _, ⟨rfl, h2⟩, ⟨_, _, ⟨rfl, h3⟩, ⟨_, _, i1, ⟨_, _, i2, ⟨_, _, i3, i4, rfl⟩, rfl⟩, rfl⟩, rfl⟩, rfl⟩, rfl⟩
/-- What is handed to append. -/
theorem PW.ready {W0 : World} (h : PW w N0 go u0 u1 u2 u3 v0 v1 v2 v3 W vI vE t) (hs : W.heap.size ≤ W0.heap.size) {cs : List Value} {z : Api.TExit} (hr : Rep.cells (Fresh W W0) W0 cs z) : Rep.cells (SX N0 w.heap.size go W0 vI vE) W0 cs z :=
  Rep.mono (fun k hk => ⟨by have := h.row.lt; have := hk.1; omega, hk.2, fun e => by have := (h.ins.lt k e).2; have := hk.1; omega, fun e => by have := (h.exs.lt k e).2; have := hk.1; omega, .inr (Nat.le_trans h.below.size hk.1)⟩) hr
/-- Where a trace begins: two rows cloned, an exit made, cells taken, in whatever order. -/
theorem PW.make {S : Nat → Prop} {wI wE wM pI pE pM : World} {OLD : Array Value} {f a l : Int} {I : List Api.TIns} {E : List Api.TExit} {x y : Api.TExit} (hA : Row W go 34 OLD)
    (hI : Own (fun _ => False) wI pI.heap.size 43 vI I) (kI : Below wI.heap.size wI W) (hE : Own S wE pE.heap.size 32 vE E) (kE : Below wE.heap.size wE W)
    (hM : Rep.cells (Fresh pM wM) wM [v0, v1, v2, v3] y) (kM : Below wM.heap.size wM W) (hT : Rep.cells S W [u0, u1, u2, u3] x) (hS : ∀ b, S b → b < w.heap.size) (hS0 : ∀ b, S b → b < N0) (hb : Below w.heap.size w W)
    (h1 : w.heap.size ≤ pI.heap.size ∧ pI.heap.size ≤ wI.heap.size ∧ wI.heap.size ≤ pE.heap.size ∧ pE.heap.size ≤ wE.heap.size ∧ wE.heap.size ≤ pM.heap.size ∧ pM.heap.size ≤ wM.heap.size ∧ wM.heap.size ≤ W.heap.size) (h2 : w.heap.size ≤ go ∧ (go < pI.heap.size ∨ (wI.heap.size ≤ go ∧ go < pE.heap.size) ∨ (wE.heap.size ≤ go ∧ go < pM.heap.size) ∨ wM.heap.size ≤ go)) :
    PW w N0 go u0 u1 u2 u3 v0 v1 v2 v3 (W.setRow go #[.int .i64 f, .int .i64 a, .int .i64 l, vI, vE, u0, u1, u2, u3, v0, v1, v2, v3]) vI vE ⟨f, a, l, I, E, x, y⟩ := by
  obtain ⟨a1, a2, a3, a4, a5, a6, a7⟩ := h1
  have lI := hI.lt; have lE := hE.lt
  have hk : ∀ k, k ≠ go → (W.setRow go #[.int .i64 f, .int .i64 a, .int .i64 l, vI, vE, u0, u1, u2, u3, v0, v1, v2, v3]).heap[k]? = W.heap[k]? := fun k hk => setRow_other _ _ _ _ hk
  have hz : (W.setRow go #[.int .i64 f, .int .i64 a, .int .i64 l, vI, vE, u0, u1, u2, u3, v0, v1, v2, v3]).heap.size = W.heap.size := by simp [World.setRow]
  have hlt := hA.lt
  have hxS : ∀ c, S c → SX N0 w.heap.size go (W.setRow go #[.int .i64 f, .int .i64 a, .int .i64 l, vI, vE, u0, u1, u2, u3, v0, v1, v2, v3]) vI vE c := fun c hc => ⟨by have := hS c hc; omega, by rw [hz]; have := hS c hc; omega, fun e => by have := lI c e; have := hS c hc; omega, fun e => by have := lE c e; have := hS c hc; omega, .inl (hS0 c hc)⟩
  refine ⟨setRow_heap _ _ _ _ _ _ hA, ?_, ?_, fun k e1 e2 => by have := lI k e1; have := lE k e2; omega, ?_, ?_, ⟨fun e => by have := lI _ e; omega, fun e => by have := lE _ e; omega⟩, below_setRow hb h2.1 _, h2.1⟩
  · exact own_same' (own_base2 hI a1) (fun c hc => by have := lI c hc; exact (hk c (by omega)).trans (kI.block c this.2)) (fun _ h => h.elim)
  · exact (own_same' (own_base2 hE (by omega)) (fun c hc => by have := lE c hc; exact (hk c (by omega)).trans (kE.block c this.2)) (fun c hc => by have := hS c hc; exact (hk c (by omega)).trans (kE.block c (by omega)))).mono hxS
  · exact Rep.mono hxS (Rep.keep (fun c hc => hk c (by have := hS c hc; omega)) hT)
  · exact Rep.mono (fun c hc => ⟨by have := hc.1; have := hc.2; omega, by rw [hz]; have := hc.2; omega, fun e => by have := lI c e; have := hc.1; omega, fun e => by have := lE c e; have := hc.1; omega, .inr (by have := hc.1; omega)⟩) (Rep.keep (fun c hc => by have := hc.1; have := hc.2; exact (hk c (by omega)).trans (kM.block c this)) hM)
end
set_option maxRecDepth 100000 in
theorem cloneN_any {S : Nat → Prop} {w : World} {a : Option Addr} {c n : Nat} {xs : List Api.TIns} (hn : xs.length = n) (h : Arr S w a xs) (hnil : a = none → c = 0) (hS : ∀ b, S b → b < w.heap.size) (hm : n ≤ 100000) :
    Calls Tryd.prog 66 #[.slice a n c] w fun e w' => ∃ v, e = .returned v ∧ Own (fun _ => False) w' w.heap.size 43 v xs ∧ Below w.heap.size w w' := by
  have q22 : ∀ (w : World) (a : Option Addr) (n c n' c' : Nat), (binOp .eql 27 (.slice a n c) (.slice none n' c')).run Tryd.prog w = .ok (.bool a.isNone) w := fun w a n c n' c' => Lib.run_eql_slice_nil w _ _ a n c n' c' Tryd.underlying27
  cases a with
  | none =>
    obtain rfl := arr_none h
    go_enter Tryd.func66, Tryd.ntmps66
    go_wp2_with fail
    go_ret
    exact ⟨_, rfl, Own.nil _ _ _ _, Below.refl _ _⟩
  | some ad =>
    have HB : Hid (Own (fun _ => False) (w.alloc (.cells #[] 43)) w.heap.size 43 (.slice (some ⟨w.heap.size, 0, none⟩) 0 0) ([] : List Api.TIns)) := own_zero (Nat.le_refl _) box_zero
    have HA : Hid (Arr S (w.alloc (.cells #[] 43)) (some ad) xs) := h.keep (fun b hb => Below.heap_alloc _ _ _ (hS b hb))
    have HN := Lib.hid hn; have HNI := Lib.hid hnil
    have HSS : Hid True := trivial
    clear h hnil hn
    go_enter Tryd.func66, Tryd.ntmps66
    go_wp2_with (at_builtin; with_reducible refine Tryd.wp_apps27 (v := .slice (some ⟨w.heap.size, 0, none⟩) 0 0) rfl rfl rfl rfl HN.out HB.out HA.out Tryd.flat27 HNI.out (fun _ h => h.elim) (by simp; omega) (by simp) fun v' w' hown' hg' => ?_; have hbw : Below w.heap.size w w' := box_below (n := 0) (c := 0) (by with_unfolding_all exact hg'); have HO := Lib.hid hown'; have HW := Lib.hid hbw; clear hown' hg' hbw)
    go_ret
    exact ⟨_, rfl, by simpa using HO.out, HW.out⟩
set_option maxRecDepth 100000 in
theorem cloneX_any {S : Nat → Prop} {w : World} {a : Option Addr} {c n : Nat} {xs : List Api.TExit} (hn : xs.length = n) (h : Arr S w a xs) (hnil : a = none → c = 0) (hS : ∀ b, S b → b < w.heap.size) (hm : n ≤ 100000) :
    Calls Tryd.prog 44 #[.slice a n c] w fun e w' => ∃ v, e = .returned v ∧ Own S w' w.heap.size 32 v xs ∧ Below w.heap.size w w' := by
  have q22 : ∀ (w : World) (a : Option Addr) (n c n' c' : Nat), (binOp .eql 28 (.slice a n c) (.slice none n' c')).run Tryd.prog w = .ok (.bool a.isNone) w := fun w a n c n' c' => Lib.run_eql_slice_nil w _ _ a n c n' c' Tryd.underlying28
  cases a with
  | none =>
    obtain rfl := arr_none h
    go_enter Tryd.func44, Tryd.ntmps44
    go_wp2_with fail
    go_ret
    exact ⟨_, rfl, Own.nil _ _ _ _, Below.refl _ _⟩
  | some ad =>
    have HB : Hid (Own S (w.alloc (.cells #[] 32)) w.heap.size 32 (.slice (some ⟨w.heap.size, 0, none⟩) 0 0) ([] : List Api.TExit)) := own_zero (Nat.le_refl _) box_zero
    have HA : Hid (Arr S (w.alloc (.cells #[] 32)) (some ad) xs) := h.keep (fun b hb => Below.heap_alloc _ _ _ (hS b hb))
    have HN := Lib.hid hn; have HNI := Lib.hid hnil
    have HSS : Hid (∀ b, S b → b < (w.alloc (.cells #[] 32)).heap.size ∧ (Value.slice (some ⟨w.heap.size, 0, none⟩) 0 0).ownBlock ≠ some b) := fun b hb => by
      have := hS b hb
      refine ⟨by simp; omega, fun e => ?_⟩
      have : w.heap.size = b := Option.some.inj e
      omega
    clear h hnil hn
    go_enter Tryd.func44, Tryd.ntmps44
    go_wp2_with (at_builtin; with_reducible refine Tryd.wp_apps28 (v := .slice (some ⟨w.heap.size, 0, none⟩) 0 0) rfl rfl rfl rfl HN.out HB.out HA.out (fun cs y h => h) HNI.out HSS.out (by simp; omega) (by simp) fun v' w' hown' hg' => ?_; have hbw : Below w.heap.size w w' := box_below (n := 0) (c := 0) (by with_unfolding_all exact hg'); have HO := Lib.hid hown'; have HW := Lib.hid hbw; clear hown' hg' hbw)
    go_ret
    exact ⟨_, rfl, by simpa using HO.out, HW.out⟩
end Go.Proofs.YtekofpigmggbbaaDoor.peel
