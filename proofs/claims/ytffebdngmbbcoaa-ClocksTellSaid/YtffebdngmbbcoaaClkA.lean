/- ClocksEdges: the weaver of edges: its tables; an edge, all edges: walked. -/
import Derived.Test.YtffebdngmbbcoaaClkPlain
import Derived.Test.YtffebdngmbbcoaaTag
import Derived.Test.YtffebdngmbbcoaaApp
import Derived.Test.YtffebdngmbbcoaaFuncsG
import Derived.Test.YtffebdngmbbcoaaSteps
set_option linter.unusedVariables false
set_option linter.unusedSimpArgs false
namespace Go.Proofs.Ytffebdngmbbcoaa.clk
open Go.Bk Go.RowKit Go.Maps Go.Proofs.Ytffebdngmbbcoaa.lock

def intKey : KeyT Try.prog 3 Int where
  val k := .int .i64 k
  lit k := ik k
  good := I64
  keyed := int_keyed Try.underlying3
  reads k h := keyOf_int_mk Try.underlying3 h.wf
  inj k k' h := by injection h
theorem intKey_val (k : Int) : Value.int .i64 k = intKey.val k := rfl
def natV (o : Option Nat) : Option Value := o.map fun i => .int .i64 (i : Nat)
def natI (l : List Nat) : List Int := l.map fun (i : Nat) => (i : Int)
/-- The weaver, in the world w (W: the world when it was made). -/
structure WS (W w : World) (tag : Nat → Nat) (gw m0 m1 m2 m3 n : Nat) (A0 A2 : Int → Option Nat) (f1 f3 : Int → Option Value) (L1 L3 : Int → List Nat) (v : Value) (ps : List Api.DPair) : Prop where
  box : BkT tag 0 w gw 103 [.map (some m0), .map (some m1), .map (some m2), .map (some m3), v]
  last : GmT tag 1 intKey w m0 n (fun t => natV (A0 t))
  spawns : RmT tag 2 intKey w W.heap.size m1 n 3 f1 (fun t => natI (L1 t))
  over : GmT tag 3 intKey w m2 n (fun t => natV (A2 t))
  frees : RmT tag 4 intKey w W.heap.size m3 n 3 f3 (fun t => natI (L3 t))
  out : OwT tag 5 w W.heap.size 58 v ps
  below : Below W.heap.size W w
  ge : W.heap.size ≤ gw ∧ W.heap.size ≤ m0 ∧ W.heap.size ≤ m1 ∧ W.heap.size ≤ m2 ∧ W.heap.size ≤ m3
section
variable {W w w' w'' : World} {tag tag' : Nat → Nat} {gw m0 m1 m2 m3 n m : Nat} {A0 A2 : Int → Option Nat} {f1 f3 : Int → Option Value} {L1 L3 : Int → List Nat} {v v' : Value} {ps ps' : List Api.DPair}
theorem WS.keep (h : WS W w tag gw m0 m1 m2 m3 n A0 A2 f1 f3 L1 L3 v ps) {I : Nat → Prop} (t : Turn tag tag' I w w') (hI : ∀ i, I i → 5 < i) (hb : Below w.heap.size w w') : WS W w' tag' gw m0 m1 m2 m3 n A0 A2 f1 f3 L1 L3 v ps :=
  ⟨h.box.keep t (fun i => absurd (hI _ i) (by omega)), h.last.keep t (fun i => absurd (hI _ i) (by omega)), h.spawns.keep t (fun i => absurd (hI _ i) (by omega)), h.over.keep t (fun i => absurd (hI _ i) (by omega)), h.frees.keep t (fun i => absurd (hI _ i) (by omega)), h.out.keep t (fun i => absurd (hI _ i) (by omega)), h.below.trans (hb.mono h.below.size), h.ge⟩
theorem WS.quiet (h : WS W w tag gw m0 m1 m2 m3 n A0 A2 f1 f3 L1 L3 v ps) (hq : Quiet w w') : WS W w' tag gw m0 m1 m2 m3 n A0 A2 f1 f3 L1 L3 v ps := h.keep (Turn.quiet hq) (fun _ h => h.elim) (hq.below _)
theorem WS.mono (h : WS W w tag gw m0 m1 m2 m3 n A0 A2 f1 f3 L1 L3 v ps) (hn : n ≤ m) : WS W w tag gw m0 m1 m2 m3 m A0 A2 f1 f3 L1 L3 v ps :=
  ⟨h.box, ⟨h.last.map.mono hn, h.last.mark⟩, h.spawns.mono hn, ⟨h.over.map.mono hn, h.over.mark⟩, h.frees.mono hn, h.out, h.below, h.ge⟩
/-- The list of edges was turned, and stored. -/
theorem WS.edge (h : WS W w tag gw m0 m1 m2 m3 n A0 A2 f1 f3 L1 L3 v ps) (ho : Own (fun _ => False) w' W.heap.size 58 v' ps') (hg : w.grownBy w' v.ownBlock) (hst : Stay w v v') :
    WS W (w'.setCell ⟨gw, 4, none⟩ v') (retag tag w.heap.size 5) gw m0 m1 m2 m3 n A0 A2 f1 f3 L1 L3 v' ps' ∧ Turn tag (retag tag w.heap.size 5) (fun i => i = 0 ∨ i = 5) w (w'.setCell ⟨gw, 4, none⟩ v') := by
  have t1 := h.out.step hg
  have hb1 := h.box.keep t1 (by omega)
  have t2 : Turn (retag tag w.heap.size 5) (retag tag w.heap.size 5) (· = 0) w' (w'.setCell ⟨gw, 4, none⟩ v') := Turn.set hb1.mark 4 v'
  refine ⟨⟨hb1.set 4 v', (h.last.keep t1 (by omega)).keep t2 (by omega), (h.spawns.keep t1 (by omega)).keep t2 (by omega), (h.over.keep t1 (by omega)).keep t2 (by omega), (h.frees.keep t1 (by omega)).keep t2 (by omega), (h.out.turn ho hst).keep t2 (by omega), ?_, h.ge⟩, (t1.mono (fun i e => .inr e)).trans (t2.mono (fun i e => .inl e))⟩
  exact (h.below.grown hg h.below.size (fun k hk => (h.out.own.lt k hk).1)).setCell h.ge.1 _
end
theorem pair_cells' {x y : Int} (h1 : I64 x) (h2 : I64 y) (S : Nat → Prop) (w : World) : Rep.cells (α := Api.DPair) S w [.int .i64 x, .int .i64 y] ⟨x, y⟩ := ⟨[_], [_], ⟨rfl, h1⟩, ⟨rfl, h2⟩, rfl⟩
def EdgePost (W w : World) (tag : Nat → Nat) (gw m0 m1 m2 m3 n : Nat) (A0 A2 : Int → Option Nat) (f1 f3 : Int → Option Value) (L1 L3 : Int → List Nat) (ps : List Api.DPair) (e : Ending) (w' : World) : Prop :=
  e = .returned (.tuple #[]) ∧ ∃ tag' v', WS W w' tag' gw m0 m1 m2 m3 n A0 A2 f1 f3 L1 L3 v' ps ∧ Turn tag tag' (fun i => i = 0 ∨ i = 5) w w'
set_option maxRecDepth 100000 in
theorem edge_any {W w : World} {tag : Nat → Nat} {gw m0 m1 m2 m3 n : Nat} {A0 A2 : Int → Option Nat} {f1 f3 : Int → Option Value} {L1 L3 : Int → List Nat} {v : Value} {ps : List Api.DPair} {i j : Int}
    (h : WS W w tag gw m0 m1 m2 m3 n A0 A2 f1 f3 L1 L3 v ps) (hl : ps.length ≤ 1000000) (hi : I64 i) (hj : I64 j) :
    Calls Try.prog 68 #[.pointer (some ⟨gw, 0, none⟩), .int .i64 i, .int .i64 j] w (EdgePost W w tag gw m0 m1 m2 m3 n A0 A2 f1 f3 L1 L3 (ps ++ [⟨i, j⟩])) := by
  have H := Lib.hid h
  have c4 := h.box.blk.cell (j := 4) rfl
  have HPC : Hid (Rep.cells (α := Api.DPair) (fun _ => False) w [.int .i64 i, .int .i64 j] ⟨i, j⟩) := pair_cells' hi hj _ _
  have hbs := h.below.size
  have hgl := h.box.blk.lt
  have HNE : Hid (v.ownBlock ≠ some gw) := fun e => by have := h.out.mark gw e; rw [h.box.mark] at this; omega
  clear h hi hj
  go_enter Try.func68, Try.ntmps68
  go_wp2_with ((at_builtin; with_reducible refine Try.wp_appd51 rfl rfl rfl rfl rfl (by first | rfl | simp) (H.out.out.own) (HPC.out) (fun _ h => h.elim) (by omega) (by first | omega | (simp; omega)) fun v' w' hown' hg' hst' => ?_); obtain ⟨va, vc, hve, -, -, -⟩ := hown'.arr; obtain ⟨vq, hvq⟩ : ∃ q, q = (ps ++ [(⟨i, j⟩ : Api.DPair)]).length := ⟨_, rfl⟩; rw [← hvq] at hve; subst hve; clear hvq; have HO := Lib.hid hown'; have HG := Lib.hid hg'; have HS := Lib.hid hst'; have c4' := (Go.Bk.cell_grown (o := 4) hg' hgl HNE.out).trans c4; have f4' := (frozen_grown (o := 4) hg' hgl HNE.out).trans (H.out.box.blk.frozen 4); clear hown' hg' hst')
  obtain ⟨k1, k2⟩ := H.out.edge HO.out HG.out HS.out
  refine bodyPost_end (results_none rfl _ _ _) rfl ⟨rfl, _, _, k1, k2⟩
def allRel (W w : World) (tag : Nat → Nat) (gw m0 m1 m2 m3 n : Nat) (A0 A2 : Int → Option Nat) (f1 f3 : Int → Option Value) (L1 L3 : Int → List Nat) (ps : List Api.DPair) (is : List Nat) (j : Nat) (v10 : Value) (w' : World) : Prop :=
  ∃ (k : Nat) (tag' : Nat → Nat) (v' : Value), k ≤ is.length ∧ v10 = .int .i64 k ∧ WS W w' tag' gw m0 m1 m2 m3 n A0 A2 f1 f3 L1 L3 v' (ps ++ prs (is.take k) j) ∧ Turn tag tag' (fun i => i = 0 ∨ i = 5) w w'
theorem prs_succ {is : List Nat} {k i : Nat} (h : is[k]? = some i) (j : Nat) : prs (is.take (k + 1)) j = prs (is.take k) j ++ [⟨(i : Int), (j : Int)⟩] := by
  unfold prs
  rw [List.take_add_one, h, List.map_append]
  rfl
theorem natI_get {is : List Nat} {k i : Nat} (h : is[k]? = some i) : (natI is)[k]? = some (i : Int) := by unfold natI; rw [List.getElem?_map, h]; rfl
set_option maxRecDepth 100000 in
set_option maxHeartbeats 1000000 in
theorem all_any {W w : World} {tag : Nat → Nat} {gw m0 m1 m2 m3 n q : Nat} {A0 A2 : Int → Option Nat} {f1 f3 : Int → Option Value} {L1 L3 : Int → List Nat} {v u : Value} {ps : List Api.DPair} {is : List Nat} {j : Nat}
    (h : WS W w tag gw m0 m1 m2 m3 n A0 A2 f1 f3 L1 L3 v ps) (hu : OwT tag q w W.heap.size 3 u (natI is)) (hq : q ≠ 0 ∧ q ≠ 5) (hl : ps.length + is.length ≤ 1000000) (hi : ∀ i ∈ is, i < 1000000) (hj : j < 1000000) :
    Calls Try.prog 69 #[.pointer (some ⟨gw, 0, none⟩), u, .int .i64 (j : Nat)] w (EdgePost W w tag gw m0 m1 m2 m3 n A0 A2 f1 f3 L1 L3 (ps ++ prs is j)) := by
  obtain ⟨a, c, rfl, -, -, -⟩ := hu.own.arr
  obtain ⟨m, hm⟩ : ∃ m, is.length = m := ⟨_, rfl⟩
  have hm2 : (natI is).length = m := by unfold natI; rw [List.length_map]; exact hm
  rw [hm2] at hu ⊢
  rw [hm] at hl
  have HM := Lib.hid hm
  have HU := Lib.hid hu; have HI := Lib.hid hi; have H := Lib.hid h; have HQ := Lib.hid hq
  clear h hu hi hm hm2 hq
  go_enter Try.func69, Try.ntmps69
  go_wp2
  go_loopw [10] (allRel W w tag gw m0 m1 m2 m3 n A0 A2 f1 f3 L1 L3 ps is j) (fun i _ => m - (intOf i).toNat)
  case atStart => exact ⟨0, tag, v, Nat.zero_le _, rfl, by simpa [prs] using H.out, Turn.refl _ _ _⟩
  case round =>
    obtain ⟨k, tag', v', hk, rfl, hws, ht⟩ := hrel
    have HWS := Lib.hid hws; have HT := Lib.hid ht
    rw [HM.out] at hk
    clear hws ht
    by_cases hlt : k < m
    · obtain ⟨i, hik⟩ : ∃ i, is[k]? = some i := ⟨_, List.getElem?_eq_getElem (by have := HM.out; omega)⟩
      have hib := HI.out i (List.mem_of_getElem? hik)
      have HPS := Lib.hid (prs_succ hik j)
      have hpl : (ps ++ prs (is.take k) j).length ≤ 1000000 := by
        rw [List.length_append, prs_len, List.length_take]
        omega
      have HU2 := Lib.hid (HU.out.keep HT.out (by intro h; rcases h with h | h; exact HQ.out.1 h; exact HQ.out.2 h))
      obtain ⟨b1, o1, ea, q1⟩ : ∃ b1 o1, a = some ⟨b1, o1, none⟩ ∧ wr.cell? ⟨b1, o1 + k, none⟩ = some (.int .i64 (i : Nat)) := by
        obtain ⟨a9, c9, e9, -, -, h9⟩ := HU2.out.own.arr
        injection e9 with e9 e10 e11
        obtain ⟨b1, o1, ea, -, q1, -⟩ := arr_int h9 (natI_get hik)
        exact ⟨b1, o1, e9.trans ea, q1⟩
      subst ea
      have HE := Lib.hid (edge_any HWS.out hpl (i := (i : Int)) (j := (j : Int)) (by unfold I64; omega) (by unfold I64; omega))
      clear hik
      go_wp2_with fail
      refine HE.out.mono ?_
      rintro e w2 ⟨rfl, tag2, v2, hws2, ht2⟩
      have HWS2 := Lib.hid hws2; have HT2 := Lib.hid ht2
      clear hws2 ht2 HE
      go_wp2_with fail
      go_roundw
      case rel => exact ⟨k + 1, tag2, v2, by rw [HM.out]; omega, by go_num, by rw [HPS.out, ← List.append_assoc]; exact HWS2.out, HT.out.trans HT2.out⟩
      case measure => simp [intOf]; omega
    · obtain rfl : k = m := by omega
      have HPE : Hid (prs (is.take k) j = prs is j) := by show _ = _; rw [List.take_of_length_le (by rw [HM.out]; exact Nat.le_refl _)]
      go_wp2
      refine bodyPost_end (results_none rfl _ _ _) rfl ⟨rfl, tag', v', by rw [← HPE.out]; exact HWS.out, HT.out⟩
end Go.Proofs.Ytffebdngmbbcoaa.clk
