/- PagesTells: the store that Set and Drop build: its state. -/
import Derived.Test.YtjlnaiiajlahgaaPagP2
import Derived.Laws.ResultCell
set_option linter.unusedVariables false
set_option linter.unusedSimpArgs false
namespace Go.Proofs.Ytjlnaiiajlahgaa.pag
open Go.Bk Go.RowKit

/-! ### plain -/
theorem inc_zero (u r : List Int) : incTo u r 0 = u := by
  unfold incTo
  refine List.ext_getElem? fun i => ?_
  by_cases hi : i < u.length
  · rw [List.getElem?_map, List.getElem?_range hi, List.getElem?_eq_getElem hi]
    simp [cnt_nil, hi]
  · rw [List.getElem?_eq_none (by simp; omega), List.getElem?_eq_none (by omega)]
theorem inc_len (u r : List Int) (k : Nat) : (incTo u r k).length = u.length := by unfold incTo; simp
theorem inc_at {u r : List Int} {k i : Nat} (h : i < u.length) : (incTo u r k)[i]? = some ((u[i]?).getD 0 + cnt (r.take k) (i : Int)) := by unfold incTo; simp [h]
theorem inc_skip {u r : List Int} {k : Nat} {p : Int} (hp : r[k]? = some p) (hn : p < 0) : incTo u r (k + 1) = incTo u r k := by
  unfold incTo
  exact List.map_congr_left fun i _ => by rw [cnt_take_succ hp, if_neg (by omega)]; omega
theorem inc_step {u r : List Int} {k p : Nat} (hp : r[k]? = some (p : Int)) (hl : p < u.length) (hu : ∀ x ∈ u, 0 ≤ x ∧ x ≤ 1000) (hr : r.length ≤ 16) :
    ∃ x : Int, (incTo u r k)[p]? = some x ∧ 0 ≤ x ∧ x ≤ 2000 ∧ incTo u r (k + 1) = (incTo u r k).set p (x + 1) := by
  have h1 := cnt_range (r.take k) (p : Int)
  have h2 := hu _ (List.getElem_mem hl)
  rw [List.length_take] at h1
  refine ⟨_, inc_at hl, ?_, ?_, List.ext_getElem? fun i => ?_⟩
  · rw [List.getElem?_eq_getElem hl]; show 0 ≤ u[p] + _; omega
  · rw [List.getElem?_eq_getElem hl]; show u[p] + _ ≤ _; omega
  · by_cases hi : i < u.length
    · rw [inc_at hi, cnt_take_succ hp]
      by_cases e : p = i
      · subst e
        rw [List.getElem?_set_self (by rw [inc_len]; exact hi), if_pos rfl, Int.add_assoc]
      · rw [List.getElem?_set_ne e, inc_at hi, if_neg (by omega), Int.add_zero]
    · rw [List.getElem?_eq_none (by rw [inc_len]; omega), List.getElem?_eq_none (by rw [List.length_set, inc_len]; omega)]
theorem free_le (u : List Int) : freeOf u ≤ u.length := (findIdx_spec _ _).1
theorem uses_few {s : Store} (h : Right s) (h2 : s.roots.length ≤ 40) : ∀ x ∈ s.uses, 0 ≤ x ∧ x ≤ 1000 := fun x hx => by
  rw [← h.2.1] at hx
  unfold outOf at hx
  obtain ⟨i, -, rfl⟩ := List.mem_map.1 hx
  have h3 := cnt_range s.roots.flatten (i : Int)
  have h4 := flat_len h.1
  omega
theorem half_few {s : Store} {q : Nat} {r : List Int} (h : There s q r) (at' v : Int) : ∀ x ∈ (half s (q : Int) at' v).2.2, 0 ≤ x ∧ x ≤ 1000 := fun x hx => by
  unfold half at hx
  split at hx
  · exact uses_few h.right h.fewR x hx
  · change x ∈ newUses s _ at hx
    unfold newUses at hx
    split at hx
    · exact uses_few h.right h.fewR x hx
    · rcases List.mem_append.1 hx with h1 | h1
      · exact uses_few h.right h.fewR x h1
      · simp at h1; omega
theorem half_okP {s : Store} {q : Nat} {r : List Int} (h : There s q r) (at' v : Int) : ∀ p ∈ (half s (q : Int) at' v).2.1, -1 ≤ p ∧ p < ((half s (q : Int) at' v).2.2.length : Int) := fun p hp => by
  have hl := right_len h.right
  have hf := free_le s.uses
  have hok : ∀ p ∈ r, -1 ≤ p ∧ p < (s.uses.length : Int) := fun p hp => by have := h.ok p hp; unfold okP at this; omega
  unfold half at hp ⊢
  split at hp
  · rename_i hg
    rw [if_pos hg]
    change p ∈ rowAt s _ at hp
    rw [rowAt_nat h] at hp
    exact hok p hp
  · rename_i hg
    rw [if_neg hg]
    change p ∈ (rowAt s _).set _ (newNum s _) at hp
    rw [rowAt_nat h] at hp
    show _ ∧ p < ((newUses s _).length : Int)
    have hul : s.uses.length ≤ (newUses s (nPage s (q : Int) at' v)).length := by unfold newUses; split <;> simp
    rcases List.mem_or_eq_of_mem_set hp with h1 | h1
    · have := hok p h1; omega
    · subst h1
      unfold newNum newUses
      by_cases h0 : nPage s (q : Int) at' v = zero4
      · rw [if_pos h0, if_pos (.inl h0)]; omega
      · rw [if_neg h0]
        by_cases h2 : freeOf s.uses < s.uses.length
        · rw [if_pos (.inr h2)]; omega
        · rw [if_neg (fun h => by rcases h with h | h; exact h0 h; exact h2 h), List.length_append]
          simp
          omega

/-! ### the state -/
structure OutSt (w w' : World) (g B R : Nat) (vP vU vR : Value) (hs : List Hd) (s' : Store) : Prop where
  box : Blk w' g 26 [vP, vU, vR]
  parts : Parts w' B vP vU vR hs s'
  off : Off vP vU vR hs g
  res : Blk w' R 26 [.slice none 0 0, .slice none 0 0, .slice none 0 0]
  lowR : R < B
  lowW : w.heap.size ≤ R
  lowG : B ≤ g
  below : RowKit.Below w.heap.size w w'
section
variable {w w1 w2 : World} {g B R : Nat} {vP vU vR vP' vU' vR' : Value} {hs hs' : List Hd} {s' : Store}
theorem out_new {w w3 w4 : World} {R : Nat} {s : Store} (hb3 : RowKit.Below w.heap.size w w3) (hR : w.heap.size ≤ R) (hres : Blk w3 R 26 [.slice none 0 0, .slice none 0 0, .slice none 0 0]) (hp : Parts w4 w3.heap.size vP vU vR hs s) (hb4 : RowKit.Below w3.heap.size w3 w4) :
    OutSt w ((((w4.alloc (.cells #[.slice none 0 0, .slice none 0 0, .slice none 0 0] 26)).setCell ⟨w4.heap.size, 0, none⟩ vP).setCell ⟨w4.heap.size, 1, none⟩ vU).setCell ⟨w4.heap.size, 2, none⟩ vR) w4.heap.size w3.heap.size R vP vU vR hs s := by
  have hoff : Off vP vU vR hs w4.heap.size := hp.off (.inr (Nat.le_refl _))
  have hb5 : RowKit.Below w4.heap.size w4 (w4.alloc (.cells #[.slice none 0 0, .slice none 0 0, .slice none 0 0] 26)) := (RowKit.Below.refl _ _).alloc (Nat.le_refl _) _
  have hbk := blk_new w4 [.slice none 0 0, .slice none 0 0, .slice none 0 0] 26
  have hg : (w4.alloc (.cells #[.slice none 0 0, .slice none 0 0, .slice none 0 0] 26)).grownBy ((((w4.alloc (.cells #[.slice none 0 0, .slice none 0 0, .slice none 0 0] 26)).setCell ⟨w4.heap.size, 0, none⟩ vP).setCell ⟨w4.heap.size, 1, none⟩ vU).setCell ⟨w4.heap.size, 2, none⟩ vR) (some w4.heap.size) := grownBy_setCell (grownBy_setCell (grownBy_setCell (World.grownBy.refl _ _) _ _) _ _) _ _
  have hr4 := hres.keep (hb4.block _ hres.lt)
  have hr5 := hr4.keep (hb5.block _ hr4.lt)
  have hbw : RowKit.Below w.heap.size w (w4.alloc (.cells #[.slice none 0 0, .slice none 0 0, .slice none 0 0] 26)) := (hb3.trans (hb4.mono hb3.size)).trans (hb5.mono (Nat.le_trans hb3.size hb4.size))
  exact ⟨((hbk.set 0 vP).set 1 vU).set 2 vR, (hp.keep hb5).other hg hoff, hoff, hr5.keep (hg.block _ hr5.lt (fun e => by have := Option.some.inj e; have := hr4.lt; omega)), hres.lt, hR, hb4.size,
    hbw.grown hg hbw.size (fun r hr => by cases hr; exact Nat.le_trans hb3.size hb4.size)⟩
theorem OutSt.keep (h : OutSt w w1 g B R vP vU vR hs s') (hb : RowKit.Below w1.heap.size w1 w2) : OutSt w w2 g B R vP vU vR hs s' :=
  ⟨h.box.keep (hb.block _ h.box.lt), h.parts.keep hb, h.off, h.res.keep (hb.block _ h.res.lt), h.lowR, h.lowW, h.lowG, h.below.trans (hb.mono h.below.size)⟩
/-- What turned a block that is not the box's and not the answer's. -/
theorem OutSt.turn {gx : Nat} {s2 : Store} (h : OutSt w w1 g B R vP vU vR hs s') (hg : w1.grownBy w2 (some gx)) (hne : gx ≠ g) (hB : B ≤ gx) (hp : Parts w2 B vP vU vR hs s2) : OutSt w w2 g B R vP vU vR hs s2 :=
  ⟨h.box.keep (hg.block _ h.box.lt (fun e => hne (Option.some.inj e).symm)), hp, h.off, h.res.keep (hg.block _ h.res.lt (fun e => by have := Option.some.inj e; have := h.lowR; omega)), h.lowR, h.lowW, h.lowG,
    h.below.grown hg h.below.size (fun r hr => by cases hr; have := h.lowR; have := h.lowW; omega)⟩
theorem OutSt.setU (h : OutSt w w1 g B R vP vU vR hs s') {gu n c k : Nat} {x y : Int} (hv : vU = .slice (some ⟨gu, 0, none⟩) n c) (hk : s'.uses[k]? = some x) (hy : I64 y) : OutSt w (w1.setCell ⟨gu, k, none⟩ (.int .i64 y)) g B R vP vU vR hs ⟨s'.pages, s'.uses.set k y, s'.roots⟩ :=
  h.turn (grownBy_setCell (World.grownBy.refl _ _) _ _) (fun e => h.off.u (by rw [hv, ← e]; rfl)) (h.parts.lt.2.1 gu (by rw [hv]; rfl)).1 (h.parts.setU hv hk hy)
theorem OutSt.setP (h : OutSt w w1 g B R vP vU vR hs s') {gp n c k : Nat} {x y : Four} (hv : vP = .slice (some ⟨gp, 0, none⟩) n c) (hk : s'.pages[k]? = some x) (h1 : I64 y.1) (h2 : I64 y.2.1) (h3 : I64 y.2.2.1) (h4 : I64 y.2.2.2) :
    OutSt w ((((w1.setCell ⟨gp, k * 4, none⟩ (.int .i64 y.1)).setCell ⟨gp, k * 4 + 1, none⟩ (.int .i64 y.2.1)).setCell ⟨gp, k * 4 + 2, none⟩ (.int .i64 y.2.2.1)).setCell ⟨gp, k * 4 + 3, none⟩ (.int .i64 y.2.2.2)) g B R vP vU vR hs ⟨s'.pages.set k y, s'.uses, s'.roots⟩ :=
  h.turn (grownBy_setCell (grownBy_setCell (grownBy_setCell (grownBy_setCell (World.grownBy.refl _ _) _ _) _ _) _ _) _ _) (fun e => h.off.p (by rw [hv, ← e]; rfl)) (h.parts.lt.1 gp (by rw [hv]; rfl)).1 (h.parts.setP hv hk h1 h2 h3 h4)
theorem Off.nilR {vP vU vR : Value} {hs : List Hd} {g : Nat} (k : Nat) (h : Off vP vU vR hs g) : Off vP vU vR (hs.set k nilHd) g :=
  ⟨h.p, h.u, h.r, fun j x hx => by
    by_cases hj : k = j
    · subst hj
      by_cases hl : k < hs.length
      · rw [List.getElem?_set_self hl] at hx
        cases hx
        intro e; cases e
      · rw [List.getElem?_eq_none (by rw [List.length_set]; omega)] at hx
        cases hx
    · rw [List.getElem?_set_ne hj] at hx
      exact h.rows j x hx⟩
theorem OutSt.nilR (h : OutSt w w1 g B R vP vU vR hs s') {gr n c k : Nat} (hv : vR = .slice (some ⟨gr, 0, none⟩) n c) (hk : k < s'.roots.length) : OutSt w (w1.setCell ⟨gr, k, none⟩ (.slice none 0 0)) g B R vP vU vR (hs.set k nilHd) ⟨s'.pages, s'.uses, s'.roots.set k []⟩ := by
  have hg : w1.grownBy (w1.setCell ⟨gr, k, none⟩ (.slice none 0 0)) (some gr) := grownBy_setCell (World.grownBy.refl _ _) _ _
  have hne : gr ≠ g := fun e => h.off.r (by rw [hv, ← e]; rfl)
  have hB := (h.parts.lt.2.2.1 gr (by rw [hv]; rfl)).1
  exact ⟨h.box.keep (hg.block _ h.box.lt (fun e => hne (Option.some.inj e).symm)), h.parts.nilR hv hk, h.off.nilR k, h.res.keep (hg.block _ h.res.lt (fun e => by have := Option.some.inj e; have := h.lowR; omega)), h.lowR, h.lowW, h.lowG,
    h.below.grown hg h.below.size (fun r hr => by cases hr; have := h.lowR; have := h.lowW; omega)⟩
/-- What fresh left. -/
theorem OutSt.fresh {w1 w2 : World} {vP' vU' : Value} {s2 : Store} (h : OutSt w w1 g B R vP vU vR hs s') (hf : FreshSt w1 w2 g B vP vU vR hs s2 vP' vU') : OutSt w w2 g B R vP' vU' vR hs s2 := by
  have hn : ∀ b, b < B → ¬ turnI vP vU g b := fun b hb hi => by
    rcases hi with e | e | e
    · have := h.lowG; omega
    · have := (h.parts.lt.1 b e).1; omega
    · have := (h.parts.lt.2.1 b e).1; omega
  have hsz := h.parts.lt
  exact ⟨hf.box, hf.parts, hf.off, h.res.keep (hf.only.block _ h.res.lt (hn _ h.lowR)), h.lowR, h.lowW, h.lowG,
    ⟨hf.only.os.trans h.below.os, hf.only.tape.trans h.below.tape, hf.only.output.trans h.below.output, Nat.le_trans h.below.size hf.only.size, fun b hb => (hf.only.block b (Nat.lt_of_lt_of_le hb h.below.size) (hn b (by have := h.lowR; have := h.lowW; omega))).trans (h.below.block b hb)⟩⟩
theorem OutSt.alloc (h : OutSt w w1 g B R vP vU vR hs s') (o : Obj) : OutSt w (w1.alloc o) g B R vP vU vR hs s' := h.keep ((RowKit.Below.refl _ _).alloc (Nat.le_refl _) o)
theorem out_new2 {w w3 w4 : World} {R : Nat} {s : Store} (hb3 : RowKit.Below w.heap.size w w3) (hR : w.heap.size ≤ R) (hres : Blk w3 R 26 [.slice none 0 0, .slice none 0 0, .slice none 0 0]) (hp : Parts w4 w3.heap.size vP vU vR hs s) (hb4 : RowKit.Below w3.heap.size w3 w4) :
    OutSt w (w4.alloc (.cells #[vP, vU, vR] 26)) w4.heap.size w3.heap.size R vP vU vR hs s := by
  have hb5 : RowKit.Below w4.heap.size w4 (w4.alloc (.cells #[vP, vU, vR] 26)) := (RowKit.Below.refl _ _).alloc (Nat.le_refl _) _
  have hr4 := hres.keep (hb4.block _ hres.lt)
  exact ⟨blk_new w4 [vP, vU, vR] 26, hp.keep hb5, hp.off (.inr (Nat.le_refl _)), hr4.keep (hb5.block _ hr4.lt), hres.lt, hR, hb4.size, (hb3.trans (hb4.mono hb3.size)).trans (hb5.mono (Nat.le_trans hb3.size hb4.size))⟩
theorem int_at {B : Nat} {w : World} {e : TypeId} {v : Value} {xs : List Int} {k : Nat} {x : Int} (h : Go.Bk.Own (fun _ => False) w B e v xs) (hk : xs[k]? = some x) :
    ∃ g cap, v = .slice (some ⟨g, 0, none⟩) xs.length cap ∧ B ≤ g ∧ g < w.heap.size ∧ w.cell? ⟨g, k, none⟩ = some (.int .i64 x) ∧ w.frozen? ⟨g, k, none⟩ = false ∧ I64 x := by
  obtain ⟨g, cap, cs, he, h1, h2, h3, h4, h5, h6, -⟩ := h.at hk
  obtain ⟨rfl, hi⟩ := h4
  have h7 := h5 0 (by show 0 < 1; omega)
  rw [show k * Rep.sz Int + 0 = k by show k * 1 + 0 = k; omega] at h7
  exact ⟨g, cap, he, h1, h2, h7, h6 k, hi⟩
theorem four_own_at {B : Nat} {w : World} {e : TypeId} {v : Value} {xs : List Four} {k : Nat} {x : Four} (h : Go.Bk.Own (fun _ => False) w B e v xs) (hk : xs[k]? = some x) :
    ∃ g cap, v = .slice (some ⟨g, 0, none⟩) xs.length cap ∧ B ≤ g ∧ g < w.heap.size ∧ (w.cell? ⟨g, k * 4, none⟩ = some (.int .i64 x.1) ∧ w.cell? ⟨g, k * 4 + 1, none⟩ = some (.int .i64 x.2.1) ∧ w.cell? ⟨g, k * 4 + 2, none⟩ = some (.int .i64 x.2.2.1) ∧ w.cell? ⟨g, k * 4 + 3, none⟩ = some (.int .i64 x.2.2.2)) ∧ ∀ j, w.frozen? ⟨g, j, none⟩ = false := by
  obtain ⟨g, cap, cs, he, h1, h2, h3, h4, h5, h6, -⟩ := h.at hk
  obtain ⟨rfl, -⟩ := cells_int4 h4
  exact ⟨g, cap, he, h1, h2, ⟨h5 0 (by show 0 < 4; omega), h5 1 (by show 1 < 4; omega), h5 2 (by show 2 < 4; omega), h5 3 (by show 3 < 4; omega)⟩, h6⟩
/-- The answer's box, and its parts. -/
theorem OutSt.done {pa ua ra : Option Addr} {nP nU nR pc uc rc : Nat} (h : OutSt w w1 g B R (.slice pa nP pc) (.slice ua nU uc) (.slice ra nR rc) hs s') :
    Blk (((w1.setCell ⟨R, 0, none⟩ (.slice pa nP pc)).setCell ⟨R, 1, none⟩ (.slice ua nU uc)).setCell ⟨R, 2, none⟩ (.slice ra nR rc)) R 26 [.slice pa nP pc, .slice ua nU uc, .slice ra nR rc] ∧
    StAt (Fresh w (((w1.setCell ⟨R, 0, none⟩ (.slice pa nP pc)).setCell ⟨R, 1, none⟩ (.slice ua nU uc)).setCell ⟨R, 2, none⟩ (.slice ra nR rc))) (((w1.setCell ⟨R, 0, none⟩ (.slice pa nP pc)).setCell ⟨R, 1, none⟩ (.slice ua nU uc)).setCell ⟨R, 2, none⟩ (.slice ra nR rc)) pa ua ra nP nU nR s' ∧
    RowKit.Below w.heap.size w (((w1.setCell ⟨R, 0, none⟩ (.slice pa nP pc)).setCell ⟨R, 1, none⟩ (.slice ua nU uc)).setCell ⟨R, 2, none⟩ (.slice ra nR rc)) := by
  have hg : w1.grownBy (((w1.setCell ⟨R, 0, none⟩ (.slice pa nP pc)).setCell ⟨R, 1, none⟩ (.slice ua nU uc)).setCell ⟨R, 2, none⟩ (.slice ra nR rc)) (some R) := grownBy_setCell (grownBy_setCell (grownBy_setCell (World.grownBy.refl _ _) _ _) _ _) _ _
  have hp := h.parts.other hg (h.parts.off (.inl h.lowR))
  obtain ⟨a1, c1, e1, -, -, h1⟩ := hp.pages.arr
  obtain ⟨a2, c2, e2, -, -, h2⟩ := hp.uses.arr
  obtain ⟨a3, c3, e3, -, -⟩ := hp.roots.form
  injection e1 with e1 l1 k1
  injection e2 with e2 l2 k2
  injection e3 with e3 l3 k3
  subst e1 e2
  have hB := h.lowR; have hW := h.lowW
  exact ⟨((h.res.set 0 _).set 1 _).set 2 _, ⟨h1.mono fun b hb => by
      rcases hb with h | h
      · exact h.elim
      · exact ⟨by omega, h.2⟩, h2.mono fun b hb => by
      rcases hb with h | h
      · exact h.elim
      · exact ⟨by omega, h.2⟩, hp.roots.arr.mono fun b hb => ⟨by omega, hb.2⟩, l1.symm, l2.symm, l3.symm⟩, h.below.grown hg h.below.size (fun r hr => by cases hr; exact hW)⟩
end
theorem results_cell_tmp2_row {P : Program} {fn : Func} {p u v : Tmp} {ty : TypeId} (h : fn.results = #[.cell p ty, .tmp u, .tmp v]) (tmps : Array Value) (w : World) (g : Nat) (t : TypeId) (cs : Array Value) (fr : Nat × Nat) (d : TypeDesc)
    (hp : tmps.getD p undef = .pointer (some ⟨g, 0, none⟩)) (hg : w.heap[g]? = some (.cells cs t fr))
    (hu : P.underlying ty = some d) (hd : (match d with | .struct _ | .array _ _ => true | _ => false) = true) (hi : (P.info? ty).map (·.size) = some cs.size) :
    (results fn tmps).run P w = .ok (.tuple #[.agg cs, tmps.getD u undef, tmps.getD v undef]) w := by
  have hp' : tmps[p]?.getD undef = .pointer (some ⟨g, 0, none⟩) := by simpa using hp
  simp only [results, h]
  simp [Sem.run_bind, Result.andThen, hp', asAddr, Sem.run_pure, run_loadVar_row w g t ty cs fr d hg hu hd hi]
theorem results_cell_tmp_row {P : Program} {fn : Func} {p u : Tmp} {ty : TypeId} (h : fn.results = #[.cell p ty, .tmp u]) (tmps : Array Value) (w : World) (g : Nat) (t : TypeId) (cs : Array Value) (fr : Nat × Nat) (d : TypeDesc)
    (hp : tmps.getD p undef = .pointer (some ⟨g, 0, none⟩)) (hg : w.heap[g]? = some (.cells cs t fr))
    (hu : P.underlying ty = some d) (hd : (match d with | .struct _ | .array _ _ => true | _ => false) = true) (hi : (P.info? ty).map (·.size) = some cs.size) :
    (results fn tmps).run P w = .ok (.tuple #[.agg cs, tmps.getD u undef]) w := by
  rw [results_cell_tmp h, hp]
  simp [asAddr, Sem.run_pure, Result.andThen, run_loadVar_row w g t ty cs fr d hg hu hd hi]
end Go.Proofs.Ytjlnaiiajlahgaa.pag
