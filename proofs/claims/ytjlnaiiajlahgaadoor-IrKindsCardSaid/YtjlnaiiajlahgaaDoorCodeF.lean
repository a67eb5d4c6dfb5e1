/- code.Check: tries: walked (under way). -/
import Derived.Test.YtjlnaiiajlahgaaDoorCodeE
import Derived.Deep.LoopGhost
import Derived.Deep.OwnRows
import Derived.Deep.DeepCutAuto
import Derived.Deep.QuietTactic
set_option linter.unusedVariables false
set_option linter.unusedSimpArgs false
namespace Go.Proofs.YtjlnaiiajlahgaaDoor.cod
open Go.Bk Go.RowKit Go.Proofs.YtjlnaiiajlahgaaDoor.funs

theorem iter_succ (code : List Api.Ins) : ∀ (k : Nat) (s : WSt), iter code (k + 1) s = if halted (iter code k s) then iter code k s else round code (iter code k s)
  | 0, s => rfl
  | k + 1, s => by
    by_cases h : halted s = true
    · have e : ∀ j, iter code j s = s := fun j => by
        cases j with
        | zero => rfl
        | succ j => show (if halted s then s else _) = s; rw [if_pos h]
      rw [e, e, if_pos h]
    · have e : ∀ j, iter code (j + 1) s = iter code j (round code s) := fun j => if_neg h
      rw [e (k + 1), e k]
      exact iter_succ code k (round code s)
theorem Inv.start (n : Nat) : Inv n (start n) := by
  have h : Inv n ⟨List.replicate n false, List.replicate n [], [], false⟩ := ⟨⟨by simp, by simp, fun a ha => by simp at ha⟩, by unfold cod.many; simp, fun l hl => by rw [(List.mem_replicate.1 hl).2]; simp⟩
  exact h.come [] (Int.le_refl _)
theorem made_list (z : Value) (n : Nat) : (madeCells #[z] n).toList = List.replicate n z := by
  apply List.ext_getElem
  · simp [madeCells]
  · intro i h1 h2
    simp [madeCells, Nat.mod_one]
theorem rowsV_rep (n : Nat) : rowsV (List.replicate n (none, 0)) (List.replicate n []) = List.replicate n (.slice none 0 0) := by
  induction n with
  | zero => rfl
  | succ n ih => rw [List.replicate_succ, List.replicate_succ, List.replicate_succ, rowsV, ih]; rfl
theorem Wk.start {B : Nat} {W : World} {g gs go n : Nat} {pa rg : Int} {gn : Bool} {a3 : Option Addr} {nA c3 : Nat} {a4 : Option Addr} {c4 : Nat}
    (hg : Blk W g 200 (wkC pa rg gn a3 nA c3 a4 n c4 gs go (.slice none 0 0) false)) (hs : Blk W gs 4 (List.replicate n (.bool false))) (ho : Blk W go 216 (List.replicate n (.slice none 0 0)))
    (b1 : B ≤ g) (b2 : B ≤ gs) (b3 : B ≤ go) (n1 : g ≠ gs) (n2 : g ≠ go) (n3 : gs ≠ go) : Wk B W g gs go n pa rg gn a3 nA c3 a4 c4 ⟨List.replicate n false, List.replicate n [], [], false⟩ (fun _ => False) (.slice none 0 0) (List.replicate n (none, 0)) :=
  ⟨hg, by simpa using hs, by show Blk W go _ (rowsV _ _); rw [rowsV_rep]; exact ho, by simp, (fun j h l h1 h2 => by
      have e1 := List.mem_of_getElem? h1
      have e2 := List.mem_of_getElem? h2
      have e1 := (List.mem_replicate.1 e1).2
      have e2 := (List.mem_replicate.1 e2).2
      subst e1 e2
      exact ⟨Arr.nil _ _ _, fun _ => rfl, Nat.le_refl _, by simp [maxLen]⟩), Go.Bk.Own.nil _ _ _ _, b1, b2, b3, n1, n2, n3, (fun e => by cases e), (fun e => by cases e), (fun e => by cases e), (fun b h => h.elim), by simp, by simp⟩
/-- Three new blocks. -/
theorem three (w : World) (o1 o2 o3 : Array Value) (t1 t2 t3 : TypeId) (W : World) (hW : W = (((w.alloc (.cells o1 t1)).alloc (.cells o2 t2)).alloc (.cells o3 t3)).drew) :
    Blk W w.heap.size t1 o1.toList ∧ Blk W (w.heap.size + 1) t2 o2.toList ∧ Blk W (w.heap.size + 1 + 1) t3 o3.toList ∧ RowKit.Below w.heap.size w W := by
  subst hW
  have bn : ∀ (W : World) (o : Array Value) (t : TypeId), Blk (W.alloc (.cells o t)) W.heap.size t o.toList := fun W o t => by have := blk_new W o.toList t; rwa [Array.toArray_toList] at this
  have b1 := bn w o1 t1
  have b2 := bn (w.alloc (.cells o1 t1)) o2 t2
  have b3 := bn ((w.alloc (.cells o1 t1)).alloc (.cells o2 t2)) o3 t3
  have z1 : (w.alloc (.cells o1 t1)).heap.size = w.heap.size + 1 := by simp
  have z2 : ((w.alloc (.cells o1 t1)).alloc (.cells o2 t2)).heap.size = w.heap.size + 1 + 1 := by simp
  rw [z1] at b2
  rw [z2] at b3
  refine ⟨?_, ?_, b3, (belowN (belowN (belowN (RowKit.Below.refl _ _) _) _) _).drew⟩
  · exact (b1.keep (Below.heap_alloc _ _ _ (by omega))).keep (Below.heap_alloc _ _ _ (by omega))
  · exact b2.keep (Below.heap_alloc _ _ _ (by omega))
theorem Inv.drop {n : Nat} {s : WSt} (h : Inv n s) : Inv n { s with todo := s.todo.dropLast } := by
  refine ⟨⟨h.ok.seen, h.ok.out, fun x hx => h.ok.todo x ((List.dropLast_sublist _).subset hx)⟩, ?_, h.few⟩
  have := h.many
  unfold cod.many at this ⊢
  simp
  omega
theorem Inv.from {code : List Api.Ins} {s : WSt} (h : Inv code.length s) (hA : Aims code) (a : Nat) : Inv code.length (from' code s a) := by
  unfold from'
  split
  · exact h
  · rename_i i hi
    obtain ⟨h1, h2⟩ := hA a i hi
    dsimp only
    split
    · exact h
    · split
      · rename_i hc; exact h.come _ (h1 hc)
      · split
        · rename_i hc; exact (h.come _ (h2 (.inl hc))).come _ (by omega)
        · split
          · rename_i hc; exact (h.come _ (h2 (.inr hc))).come _ (by omega)
          · split
            · split
              · exact ⟨⟨h.ok.seen, h.ok.out, h.ok.todo⟩, h.many, h.few⟩
              · exact h.come _ (by omega)
            · exact h.come _ (by omega)
theorem Inv.round {code : List Api.Ins} {s : WSt} (h : Inv code.length s) (hA : Aims code) : Inv code.length (round code s) := by
  unfold cod.round
  split
  · exact h
  · exact h.drop.from hA _
theorem tries_at {code : List Api.Ins} (hA : Aims code) {j : Nat} (h : halted (iter code j (start code.length)) = true) : triesOf code = iter code j (start code.length) :=
  iter_at _ _ _ (iter_halts hA _ _ (start_ok _).1 (by have := (start_ok code.length).2; omega)) h
section
variable {pa rg : Int} {gn : Bool} {a3 : Option Addr} {nA c3 : Nat} {a4 : Option Addr} {n c4 : Nat}
/-- The state, its start and what is done of it. -/
def LoopAt (w : World) (g gs go n : Nat) (pa rg : Int) (gn : Bool) (a3 : Option Addr) (nA c3 : Nat) (a4 : Option Addr) (c4 : Nat) (code : List Api.Ins) (q : Nat) (w' : World) : Prop :=
  ∃ (j : Nat) (T : Nat → Prop) (vT : Value) (hs : List Rh), many (iter code j (start n)) ≤ q ∧ Inv n (iter code j (start n)) ∧ Wk w.heap.size w' g gs go n pa rg gn a3 nA c3 a4 c4 (iter code j (start n)) T vT hs ∧ RowKit.Below w.heap.size w w'
theorem own_cutT {w : World} {B g n c k : Nat} {e : TypeId} {xs : List Int} (h : Go.Bk.Own (fun _ => False) w B e (.slice (some ⟨g, 0, none⟩) n c) xs) (hk : k ≤ n) : Go.Bk.Own (fun _ => False) w B e (.slice (some ⟨g, 0, none⟩) k c) (xs.take k) := by
  rcases own_cells h with ⟨h1, -⟩ | ⟨g2, c2, cs, he, hg, hb, hcl, hnc, hcm, ht⟩
  · cases h1
  injection he with e1 e2 e3
  injection e1 with e1
  injection e1 with e1
  subst e1 e2 e3
  refine own_of_cells hg hb hcl (by omega) hcm (by rw [List.length_take]; omega) ?_ (fun z hz => own_i64 h z (List.mem_of_mem_take hz))
  rw [intsV_take, ← ht, List.take_take, Nat.min_eq_left hk]
theorem Wk.pop {B : Nat} {w : World} {g gs go : Nat} {s : WSt} {T : Nat → Prop} {hs : List Rh} {gv m c : Nat} (h : Wk B w g gs go n pa rg gn a3 nA c3 a4 c4 s T (.slice (some ⟨gv, 0, none⟩) (m + 1) c) hs) (hm : s.todo.length = m + 1) :
    Wk B (w.setCell ⟨g, 7, none⟩ (.slice (some ⟨gv, 0, none⟩) m c)) g gs go n pa rg gn a3 nA c3 a4 c4 { s with todo := s.todo.dropLast } T (.slice (some ⟨gv, 0, none⟩) m c) hs := by
  have hg : w.grownBy (w.setCell ⟨g, 7, none⟩ (.slice (some ⟨gv, 0, none⟩) m c)) (some g) := grownBy_setCell (World.grownBy.refl _ _) _ _
  refine ⟨h.box.set 7 _, h.seen.keep (hg.block _ h.seen.lt (fun e => h.gsn (Option.some.inj e).symm)), h.out.keep (hg.block _ h.out.lt (fun e => h.gon (Option.some.inj e).symm)), h.hl,
    fun j x l h1 h2 => ⟨(h.rows j x l h1 h2).1.keep fun b hb' => hg.block b (h.tt b hb').1 (fun e => (h.tt b hb').2.1 (Option.some.inj e)), (h.rows j x l h1 h2).2⟩, ?_,
    h.bg, h.bs, h.bo, h.gsn, h.gon, h.son, h.tg, h.ts, h.to, fun b hb' => ⟨Nat.lt_of_lt_of_le (h.tt b hb').1 hg.size, (h.tt b hb').2⟩, h.ls, h.lo⟩
  have k := own_cutT (k := m) h.todo (by omega)
  have e : todoI { s with todo := s.todo.dropLast } = (todoI s).take m := by
    unfold todoI
    rw [← List.map_take, List.dropLast_eq_take, hm]
    rfl
  rw [e]
  exact k.keep hg (.inr h.tg) (fun _ h => h.elim)
theorem Wk.last {B : Nat} {w : World} {g gs go : Nat} {s : WSt} {T : Nat → Prop} {hs : List Rh} {a7 : Option Addr} {m c : Nat} (h : Wk B w g gs go n pa rg gn a3 nA c3 a4 c4 s T (.slice a7 (m + 1) c) hs) (hm : s.todo.length = m + 1) :
    ∃ gv a, a7 = some ⟨gv, 0, none⟩ ∧ s.todo.getLast? = some a ∧ w.cell? ⟨gv, m, none⟩ = some (.int .i64 (a : Nat)) ∧ gv < w.heap.size ∧ m + 1 ≤ c := by
  rcases own_cells h.todo with ⟨h1, -⟩ | ⟨g2, c2, cs, he, hg, hb, hcl, hnc, hcm, ht⟩
  · cases h1
  injection he with e1 e2 e3
  subst e1 e3
  have hl : (todoI s).length = m + 1 := e2.symm
  obtain ⟨a, ha⟩ : ∃ a, s.todo[m]? = some a := ⟨_, List.getElem?_eq_getElem (by omega)⟩
  refine ⟨g2, a, rfl, by rw [List.getLast?_eq_getElem?, hm]; exact ha, hb.cell ?_, hb.lt, by omega⟩
  have h2 : (cs.take (todoI s).length)[m]? = some (.int .i64 (a : Nat)) := by
    rw [ht]; unfold intsV todoI; simp [ha]
  rw [List.getElem?_take] at h2
  split at h2
  · exact h2
  · cases h2
def TriesPost (w : World) (pa rg : Int) (gn : Bool) (a3 : Option Addr) (nA c3 : Nat) (a4 : Option Addr) (n c4 : Nat) (code : List Api.Ins) (e : Ending) (w' : World) : Prop :=
  ∃ g gs go T vT hs, e = .returned (.tuple #[.slice (some ⟨go, 0, none⟩) n n, .slice (some ⟨gs, 0, none⟩) n n, .bool (!(triesOf code).bad)]) ∧ Wk w.heap.size w' g gs go n pa rg gn a3 nA c3 a4 c4 (triesOf code) T vT hs ∧ RowKit.Below w.heap.size w w'
set_option maxRecDepth 100000 in
set_option maxHeartbeats 1000000 in
theorem tries_any {C : Nat → Prop} {w : World} {code : List Api.Ins} (hc : Arr C w a4 code) (hC : ∀ b, C b → b < w.heap.size) (hcl : code.length = n) (hA : Aims code) (hn : n ≤ 1000) :
    Calls Tryd.prog 86 #[.agg #[.int .i64 pa, .int .i64 rg, .bool gn, .slice a3 nA c3, .slice a4 n c4]] w (TriesPost w pa rg gn a3 nA c3 a4 n c4 code) := by
  have hbx := blk_new w [.int .i64 pa, .int .i64 rg, .bool gn, .slice a3 nA c3, .slice a4 n c4] 128
  have hb0 : RowKit.Below w.heap.size w (w.alloc (.cells #[.int .i64 pa, .int .i64 rg, .bool gn, .slice a3 nA c3, .slice a4 n c4] 128)) := belowN (RowKit.Below.refl _ _) _
  obtain ⟨w1, hw1⟩ : ∃ w1, w1 = w.alloc (.cells #[.int .i64 pa, .int .i64 rg, .bool gn, .slice a3 nA c3, .slice a4 n c4] 128) := ⟨_, rfl⟩
  rw [← hw1] at hbx hb0
  obtain ⟨gb, hgb⟩ : ∃ gb, gb = w.heap.size := ⟨_, rfl⟩
  have hlt := hbx.lt
  have HX : Hid (∀ W, RowKit.Below w1.heap.size w1 W → W.cell? ⟨w.heap.size, 0, none⟩ = some (.int .i64 pa) ∧ W.cell? ⟨w.heap.size, 1, none⟩ = some (.int .i64 rg) ∧ W.cell? ⟨w.heap.size, 2, none⟩ = some (.bool gn) ∧ W.cell? ⟨w.heap.size, 3, none⟩ = some (.slice a3 nA c3) ∧ W.cell? ⟨w.heap.size, 4, none⟩ = some (.slice a4 n c4)) := fun W hb => by
    have h := hbx.keep (hb.block _ hlt)
    exact ⟨h.cell (j := 0) rfl, h.cell (j := 1) rfl, h.cell (j := 2) rfl, h.cell (j := 3) rfl, h.cell (j := 4) rfl⟩
  have HCO : Hid (∀ W, RowKit.Below w.heap.size w W → Arr C W a4 code) := fun W hb => hc.keep fun b hb' => hb.block b (hC b hb')
  have HB0 := Lib.hid hb0
  go_enter Tryd.func86, Tryd.ntmps86
  go_upto_region 1 with fail
  rw [← hw1]
  clear hw1 hbx hc hb0 hgb
  obtain ⟨p0, p1, p2, p3, p4⟩ := HX.out w1 (RowKit.Below.refl _ _)
  have hmk1 := fun W => run_make_row' (P := Tryd.prog) 172 4 (.bool false) 1 Tryd.underlying172 Tryd.info4 rfl .i64 .i64 n (by omega) (by omega) W
  have hmk2 := fun W => run_make_row' (P := Tryd.prog) 171 216 (.slice none 0 0) 24 Tryd.underlying171 Tryd.info216 rfl .i64 .i64 n (by omega) (by omega) W
  go_cut [5] (fun s5 wz => ∃ g gs go : Nat, s5 = .pointer (some ⟨g, 0, none⟩) ∧ Wk w.heap.size wz g gs go n pa rg gn a3 nA c3 a4 c4 ⟨List.replicate n false, List.replicate n [], [], false⟩ (fun _ => False) (.slice none 0 0) (List.replicate n (none, 0)) ∧ RowKit.Below w.heap.size w wz)
  case first =>
    go_region_held3 (fun w' => w'.cell? ⟨w.heap.size, 0, none⟩ = some (.int .i64 pa) ∧ w'.cell? ⟨w.heap.size, 1, none⟩ = some (.int .i64 rg) ∧ w'.cell? ⟨w.heap.size, 2, none⟩ = some (.bool gn) ∧ w'.cell? ⟨w.heap.size, 3, none⟩ = some (.slice a3 nA c3) ∧ w'.cell? ⟨w.heap.size, 4, none⟩ = some (.slice a4 n c4))
      (first
        | exact ⟨p0, p1, p2, p3, p4⟩
        | exact HX.out _ (by repeat (first | exact RowKit.Below.refl _ _ | refine belowN ?_ _ | refine RowKit.Below.drew ?_)))
      (fail)
    all_goals go_wp2_with fail
    all_goals go_meet
    · obtain ⟨k1, k2, k3, k4⟩ := three w1 (madeCells #[.bool false] n) (madeCells #[.slice none 0 0] n) _ 4 216 200 _ rfl
      rw [made_list] at k1 k2
      exact ⟨_, _, _, rfl, Wk.start k3 k1 k2 (by omega) (by omega) (by omega) (by omega) (by omega) (by omega), HB0.out.trans (k4.mono HB0.out.size)⟩
    · obtain ⟨k1, k2, k3, k4⟩ := three w1 (madeCells #[.slice none 0 0] n) (madeCells #[.bool false] n) _ 216 4 200 _ rfl
      rw [made_list] at k1 k2
      exact ⟨_, _, _, rfl, Wk.start k3 k2 k1 (by omega) (by omega) (by omega) (by omega) (by omega) (by omega), HB0.out.trans (k4.mono HB0.out.size)⟩
  case rest =>
    clear p0 p1 p2 p3 p4 hmk1 hmk2 HX
    obtain ⟨g, gs, go, rfl, hwk, hbw⟩ := hcut
    have hI0 : Inv n ⟨List.replicate n false, List.replicate n [], [], false⟩ := ⟨⟨by simp, by simp, fun a ha => by simp at ha⟩, by unfold cod.many; simp, fun l hl => by rw [(List.mem_replicate.1 hl).2]; simp⟩
    have HWK := Lib.hid hwk; have HBW := Lib.hid hbw
    have HRW : Hid (RowOf (fun _ => False) wc (none, 0) []) := ⟨Arr.nil _ _ _, fun _ => rfl, Nat.le_refl _, by simp [maxLen]⟩
    obtain ⟨w2, hw2⟩ : ∃ w2 : World, w2 = wc := ⟨_, rfl⟩
    rw [← hw2] at HWK HBW HRW ⊢
    clear hwk hbw hw2
    go_upto_region 3 with (go_at_call 118; refine (come_any (at' := 0) (x := (none, 0)) (l := []) (m := 0) HWK.out HRW.out rfl (Int.le_refl _) hn (by simp) (by omega)).mono ?_; rintro e w3 ⟨rfl, vT3, hs3, hwk3, hbw3, -⟩; have HWK3 := Lib.hid hwk3; have HBW3 := Lib.hid (HBW.out.trans hbw3); clear hwk3 hbw3)
    have HST : Hid (LoopAt w g gs go n pa rg gn a3 nA c3 a4 c4 code n w3) := ⟨0, _, vT3, hs3, (start_ok n).2, Inv.start n, HWK3.out, HBW3.out⟩
    go_loopg [] n (fun q wr => LoopAt w g gs go n pa rg gn a3 nA c3 a4 c4 code q wr)
    case atStart => exact HST.out
    case round =>
      obtain ⟨j, T, vT, hs, hq, hI, hwk, hbw⟩ := hrel
      subst hcl
      obtain ⟨s, hs'⟩ : ∃ s, s = iter code j (start code.length) := ⟨_, rfl⟩
      rw [← hs'] at hq hI hwk
      have q5 := hwk.box.cell (j := 5) rfl; have q6 := hwk.box.cell (j := 6) rfl; have q7 := hwk.box.cell (j := 7) rfl; have q8 := hwk.box.cell (j := 8) rfl
      have f7 := hwk.box.frozen 7
      have hlg := hwk.box.lt
      obtain ⟨a7, c7, rfl, k1, k2, k3, k4⟩ := hwk.todo.arrC
      obtain ⟨m, hm⟩ : ∃ m, m = (todoI s).length := ⟨_, rfl⟩
      have hm1 : m ≤ 1000 := by rw [hm]; unfold todoI; have := hI.todo; simp; omega
      rw [← hm] at hwk q7 k1
      have HM := Lib.hid hm; have HI := Lib.hid hI; have HWK4 := Lib.hid hwk; have HBW4 := Lib.hid hbw; have HSJ := Lib.hid hs'; have HQ := Lib.hid hq
      have hsb : s.bad = true ∨ s.bad = false := by cases s.bad <;> simp
      obtain ⟨sb, hsb'⟩ : ∃ b, b = s.bad := ⟨_, rfl⟩
      have HSB := Lib.hid hsb'
      rw [← hsb'] at q8
      clear hm hI hwk hbw hs' hq HST hsb hsb'
      by_cases hh : m = 0 ∨ sb = true
      · have HEND : Hid (triesOf code = s) := by
          show _ = _
          rw [HSJ.out]
          refine tries_at hA ?_
          rw [← HSJ.out]
          unfold halted
          rcases hh with h | h
          · have : s.todo = [] := List.eq_nil_of_length_eq_zero (by have := HM.out; rw [h] at this; unfold todoI at this; simpa using this.symm)
            rw [this]; rfl
          · rw [← HSB.out, h]; simp
        rcases (show m = 0 ∨ (0 < m ∧ sb = true) by rcases hh with h | h; exact .inl h; by_cases h0 : m = 0; exact .inl h0; exact .inr ⟨by omega, h⟩) with d | ⟨d, d1⟩
        · have d0 : decide (0 < m) = false := by simp [d]
          clear hh d
          go_wp2_with fail
          go_quiet (fail)
          go_wp2_with fail
          go_ret3
          exact ⟨g, gs, go, T, _, hs, by rw [HEND.out, ← HSB.out]; rfl, by rw [HEND.out]; exact HWK4.out.keep (((Quiet.refl _).more nq).below _), HBW4.out.trans (((Quiet.refl _).more nq).below _)⟩
        · have d0 : decide (0 < m) = true := by simp [d]
          subst d1
          clear hh
          go_wp2_with fail
          go_quiet (fail)
          go_wp2_with fail
          go_ret3
          exact ⟨g, gs, go, T, _, hs, by rw [HEND.out, ← HSB.out]; rfl, by rw [HEND.out]; exact HWK4.out.keep (((Quiet.refl _).more nq).below _), HBW4.out.trans (((Quiet.refl _).more nq).below _)⟩
      · have hm0 : 0 < m := by omega
        have hsf : sb = false := by cases sb <;> simp_all
        subst hsf
        clear hh
        obtain ⟨m', rfl⟩ : ∃ m', m = m' + 1 := ⟨m - 1, by omega⟩
        obtain ⟨gv, a, rfl, hla, c7v, hgv, hmc⟩ := HWK4.out.last (by have := HM.out; unfold todoI at this; simpa using this.symm)
        have HLA := Lib.hid hla
        have wm : IntKind.i64.wrap (m' : Int) = (m' : Int) := by rw [IntKind.wrap_i64]; omega
        have hsl : ∀ w' : World, (Instr.slice 56 (.slice (some ⟨gv, 0, none⟩) (m' + 1) c7) none (some (.int .i64 (m' : Int))) none).run Tryd.prog w' = .ok (.slice (some ⟨gv, 0, none⟩) m' c7) w' := fun w' =>
          run_slice_head (z := 1) Tryd.underlying56 (by kernel_rfl) _ (m' + 1) c7 m' (by omega) w'
        clear hla
        go_wp2_with fail
        go_quiet (fail)
        go_wp2_with fail
        have HWQ := Lib.hid (HWK4.out.keep (((Quiet.refl _).more nq).below _))
        have HBQ := Lib.hid (HBW4.out.trans (((Quiet.refl _).more nq).below _))
        generalize hwq : World.drewN wr nq = wq at HWQ HBQ ⊢
        have hgvq : gv < wq.heap.size := by rw [← hwq]; exact hgv
        clear q5 q6 q7 q8 f7 hwq c7v hgv hlg
        have q7 := HWQ.out.box.cell (j := 7) rfl; have f7 := HWQ.out.box.frozen 7
        have hlg := HWQ.out.box.lt
        go_still_tail 14, (by kernel_rfl)
        change wpList _ _ _ _ _ wq.drew
        have hlen : s.todo.length = m' + 1 := by have := HM.out; unfold todoI at this; simpa using this.symm
        have HPOP : Hid (Wk w.heap.size (wq.setCell ⟨g, 7, none⟩ (.slice (some ⟨gv, 0, none⟩) m' c7)).drew g gs go code.length pa rg gn a3 nA c3 a4 c4 { s with todo := s.todo.dropLast } T (.slice (some ⟨gv, 0, none⟩) m' c7) hs) := (HWQ.out.pop hlen).keep (((Quiet.refl _).more 1).below _)
        have HBP : Hid (RowKit.Below w.heap.size w (wq.setCell ⟨g, 7, none⟩ (.slice (some ⟨gv, 0, none⟩) m' c7)).drew) := (below_st HBQ.out HWQ.out.bg).trans (((Quiet.refl _).more 1).below _)
        have hak : a < code.length := HI.out.ok.todo a (List.mem_of_getLast? HLA.out)
        have HFR : Hid (Calls Tryd.prog 119 #[.pointer (some ⟨g, 0, none⟩), .int .i64 a] (wq.setCell ⟨g, 7, none⟩ (.slice (some ⟨gv, 0, none⟩) m' c7)).drew (FromPost w.heap.size (wq.setCell ⟨g, 7, none⟩ (.slice (some ⟨gv, 0, none⟩) m' c7)).drew g gs go code.length pa rg gn a3 nA c3 a4 c4 (from' code { s with todo := s.todo.dropLast } a) T)) :=
          from_any HPOP.out (HCO.out _ HBP.out) hC rfl HI.out.drop hA hak hn
        have HRD : Hid (iter code (j + 1) (start code.length) = from' code { s with todo := s.todo.dropLast } a ∧ many (iter code (j + 1) (start code.length)) + 1 ≤ many s ∧ Inv code.length (iter code (j + 1) (start code.length))) := by
          have hnh : halted s = false := by
            unfold halted
            rw [← HSB.out, Bool.or_false]
            cases hs2 : s.todo with
            | nil => rw [hs2] at hlen; simp at hlen
            | cons _ _ => rfl
          have e1 : iter code (j + 1) (start code.length) = round code s := by
            rw [iter_succ, ← HSJ.out, hnh]; rfl
          rw [e1]
          exact ⟨by unfold round; rw [HLA.out], (round_ok HI.out.ok hA hnh).2, HI.out.round hA⟩
        go_wp2_with fail
        clear hlen hak q7 f7 hlg wm hsl hmc
        (with_reducible refine HFR.out.mono ?_)
        (rintro e w5 ⟨rfl, vT5, hs5, T5, ht5, hwk5, hbw5⟩; have HWK5 := Lib.hid hwk5; have HBW5 := Lib.hid (HBP.out.trans hbw5); clear ht5 hwk5 hbw5)
        go_wp2_with fail
        go_roundg (gk - 1)
        case measure => have := HRD.out.2.1; have := HQ.out; omega
        case rel => exact ⟨j + 1, T5, vT5, hs5, by have := HRD.out.2.1; have := HQ.out; omega, HRD.out.2.2, by rw [HRD.out.1]; exact HWK5.out, HBW5.out⟩
end
end Go.Proofs.YtjlnaiiajlahgaaDoor.cod
