/- code.Check: tries: walked (under way). -/
import Derived.Test.YtekofpigmggbbaaDoorQCodeE
import Derived.Deep.LoopGhost
import Derived.Deep.OwnRows
import Derived.Deep.DeepCutAuto
import Derived.Deep.QuietTactic
import Derived.WalkLawsBesides
set_option linter.unusedVariables false
set_option linter.unusedSimpArgs false
namespace Go.Proofs.YtekofpigmggbbaaDoor.cod
open Go.Bk Go.RowKit Go.Proofs.YtekofpigmggbbaaDoor.funs

theorem iter_succ (code : List Api.Ins) : ∀ (k : Nat) (s : WSt), iter code (k + 1) s = if halted (iter code k s) then iter code k s else round code (iter code k s)
  | 0, s => rfl
  | k + 1, s => by
    by_cases h : halted s = true
    · have e : ∀ j, iter code j s = s := fun j => by
        cases j with
        | zero => rfl
        | succ j => show (if halted s then s else _) = s; rw [if_pos h]
      rw [e, e, if_pos h]
    · have e : ∀ j, iter code (j + 1) s = iter code j (round code s) := fun j => if_neg h
      rw [e (k + 1), e k]
      exact iter_succ code k (round code s)
theorem Inv.start (n : Nat) : Inv n (start n) := by
  have h : Inv n ⟨List.replicate n false, List.replicate n [], [], false⟩ := ⟨⟨by simp, by simp, fun a ha => by simp at ha⟩, by unfold cod.many; simp, fun l hl => by rw [(List.mem_replicate.1 hl).2]; simp⟩
  exact h.come [] (Int.le_refl _)
theorem made_list (z : Value) (n : Nat) : (madeCells #[z] n).toList = List.replicate n z := by
  apply List.ext_getElem
  · simp [madeCells]
  · intro i h1 h2
    simp [madeCells, Nat.mod_one]
theorem rowsV_rep (n : Nat) : rowsV (List.replicate n (none, 0)) (List.replicate n []) = List.replicate n (.slice none 0 0) := by
  induction n with
  | zero => rfl
  | succ n ih => rw [List.replicate_succ, List.replicate_succ, List.replicate_succ, rowsV, ih]; rfl
theorem Wk.start {B : Nat} {W : World} {g gs go n : Nat} {pa rg : Int} {gn : Bool} {a3 : Option Addr} {nA c3 : Nat} {a4 : Option Addr} {c4 : Nat}
    (hg : Blk W g 200 (wkC pa rg gn a3 nA c3 a4 n c4 gs go (.slice none 0 0) false)) (hs : Blk W gs 4 (List.replicate n (.bool false))) (ho : Blk W go 211 (List.replicate n (.slice none 0 0)))
    (b1 : B ≤ g) (b2 : B ≤ gs) (b3 : B ≤ go) (n1 : g ≠ gs) (n2 : g ≠ go) (n3 : gs ≠ go) : Wk B W g gs go n pa rg gn a3 nA c3 a4 c4 ⟨List.replicate n false, List.replicate n [], [], false⟩ (fun _ => False) (.slice none 0 0) (List.replicate n (none, 0)) :=
  ⟨hg, by simpa using hs, by show Blk W go _ (rowsV _ _); rw [rowsV_rep]; exact ho, by simp, (fun j h l h1 h2 => by
      have e1 := List.mem_of_getElem? h1
      have e2 := List.mem_of_getElem? h2
      have e1 := (List.mem_replicate.1 e1).2
      have e2 := (List.mem_replicate.1 e2).2
      subst e1 e2
      exact ⟨Arr.nil _ _ _, fun _ => rfl, Nat.le_refl _, by simp [maxLen]⟩), Go.Bk.Own.nil _ _ _ _, b1, b2, b3, n1, n2, n3, (fun e => by cases e), (fun e => by cases e), (fun e => by cases e), (fun b h => h.elim), by simp, by simp⟩
/-- Three new blocks. -/
theorem three (w : World) (o1 o2 o3 : Array Value) (t1 t2 t3 : TypeId) (W : World) (hW : W = (((w.alloc (.cells o1 t1)).alloc (.cells o2 t2)).alloc (.cells o3 t3)).drew) :
    Blk W w.heap.size t1 o1.toList ∧ Blk W (w.heap.size + 1) t2 o2.toList ∧ Blk W (w.heap.size + 1 + 1) t3 o3.toList ∧ RowKit.Below w.heap.size w W := by
  subst hW
  have bn : ∀ (W : World) (o : Array Value) (t : TypeId), Blk (W.alloc (.cells o t)) W.heap.size t o.toList := fun W o t => by have := blk_new W o.toList t; rwa [Array.toArray_toList] at this
  have b1 := bn w o1 t1
  have b2 := bn (w.alloc (.cells o1 t1)) o2 t2
  have b3 := bn ((w.alloc (.cells o1 t1)).alloc (.cells o2 t2)) o3 t3
  have z1 : (w.alloc (.cells o1 t1)).heap.size = w.heap.size + 1 := by simp
  have z2 : ((w.alloc (.cells o1 t1)).alloc (.cells o2 t2)).heap.size = w.heap.size + 1 + 1 := by simp
  rw [z1] at b2
  rw [z2] at b3
  refine ⟨?_, ?_, b3, (belowN (belowN (belowN (RowKit.Below.refl _ _) _) _) _).drew⟩
  · exact (b1.keep (Below.heap_alloc _ _ _ (by omega))).keep (Below.heap_alloc _ _ _ (by omega))
  · exact b2.keep (Below.heap_alloc _ _ _ (by omega))
theorem Inv.drop {n : Nat} {s : WSt} (h : Inv n s) : Inv n { s with todo := s.todo.dropLast } := by
  refine ⟨⟨h.ok.seen, h.ok.out, fun x hx => h.ok.todo x ((List.dropLast_sublist _).subset hx)⟩, ?_, h.few⟩
  have := h.many
  unfold cod.many at this ⊢
  simp
  omega
theorem Inv.from {code : List Api.Ins} {s : WSt} (h : Inv code.length s) (hA : Aims code) (a : Nat) : Inv code.length (from' code s a) := by
  unfold from'
  split
  · exact h
  · rename_i i hi
    obtain ⟨h1, h2⟩ := hA a i hi
    dsimp only
    split
    · exact h
    · split
      · rename_i hc; exact h.come _ (h1 hc)
      · split
        · rename_i hc; exact (h.come _ (h2 (.inl hc))).come _ (by omega)
        · split
          · rename_i hc; exact (h.come _ (h2 (.inr hc))).come _ (by omega)
          · split
            · split
              · exact ⟨⟨h.ok.seen, h.ok.out, h.ok.todo⟩, h.many, h.few⟩
              · exact h.come _ (by omega)
            · exact h.come _ (by omega)
theorem Inv.round {code : List Api.Ins} {s : WSt} (h : Inv code.length s) (hA : Aims code) : Inv code.length (round code s) := by
  unfold cod.round
  split
  · exact h
  · exact h.drop.from hA _
theorem tries_at {code : List Api.Ins} (hA : Aims code) {j : Nat} (h : halted (iter code j (start code.length)) = true) : triesOf code = iter code j (start code.length) :=
  iter_at _ _ _ (iter_halts hA _ _ (start_ok _).1 (by have := (start_ok code.length).2; omega)) h
section
variable {pa rg : Int} {gn : Bool} {a3 : Option Addr} {nA c3 : Nat} {a4 : Option Addr} {n c4 : Nat}
/-- The state, its start and what is done of it. -/
def LoopAt (w : World) (g gs go n : Nat) (pa rg : Int) (gn : Bool) (a3 : Option Addr) (nA c3 : Nat) (a4 : Option Addr) (c4 : Nat) (code : List Api.Ins) (q : Nat) (w' : World) : Prop :=
  ∃ (j : Nat) (T : Nat → Prop) (vT : Value) (hs : List Rh), many (iter code j (start n)) ≤ q ∧ Inv n (iter code j (start n)) ∧ Wk w.heap.size w' g gs go n pa rg gn a3 nA c3 a4 c4 (iter code j (start n)) T vT hs ∧ RowKit.Below w.heap.size w w'
theorem own_cutT {w : World} {B g n c k : Nat} {e : TypeId} {xs : List Int} (h : Go.Bk.Own (fun _ => False) w B e (.slice (some ⟨g, 0, none⟩) n c) xs) (hk : k ≤ n) : Go.Bk.Own (fun _ => False) w B e (.slice (some ⟨g, 0, none⟩) k c) (xs.take k) := by
  rcases own_cells h with ⟨h1, -⟩ | ⟨g2, c2, cs, he, hg, hb, hcl, hnc, hcm, ht⟩
  · cases h1
  injection he with e1 e2 e3
  injection e1 with e1
  injection e1 with e1
  subst e1 e2 e3
  refine own_of_cells hg hb hcl (by omega) hcm (by rw [List.length_take]; omega) ?_ (fun z hz => own_i64 h z (List.mem_of_mem_take hz))
  rw [intsV_take, ← ht, List.take_take, Nat.min_eq_left hk]
theorem Wk.pop {B : Nat} {w : World} {g gs go : Nat} {s : WSt} {T : Nat → Prop} {hs : List Rh} {gv m c : Nat} (h : Wk B w g gs go n pa rg gn a3 nA c3 a4 c4 s T (.slice (some ⟨gv, 0, none⟩) (m + 1) c) hs) (hm : s.todo.length = m + 1) :
    Wk B (w.setCell ⟨g, 7, none⟩ (.slice (some ⟨gv, 0, none⟩) m c)) g gs go n pa rg gn a3 nA c3 a4 c4 { s with todo := s.todo.dropLast } T (.slice (some ⟨gv, 0, none⟩) m c) hs := by
  have hg : w.grownBy (w.setCell ⟨g, 7, none⟩ (.slice (some ⟨gv, 0, none⟩) m c)) (some g) := grownBy_setCell (World.grownBy.refl _ _) _ _
  refine ⟨h.box.set 7 _, h.seen.keep (hg.block _ h.seen.lt (fun e => h.gsn (Option.some.inj e).symm)), h.out.keep (hg.block _ h.out.lt (fun e => h.gon (Option.some.inj e).symm)), h.hl,
    fun j x l h1 h2 => ⟨(h.rows j x l h1 h2).1.keep fun b hb' => hg.block b (h.tt b hb').1 (fun e => (h.tt b hb').2.1 (Option.some.inj e)), (h.rows j x l h1 h2).2⟩, ?_,
    h.bg, h.bs, h.bo, h.gsn, h.gon, h.son, h.tg, h.ts, h.to, fun b hb' => ⟨Nat.lt_of_lt_of_le (h.tt b hb').1 hg.size, (h.tt b hb').2⟩, h.ls, h.lo⟩
  have k := own_cutT (k := m) h.todo (by omega)
  have e : todoI { s with todo := s.todo.dropLast } = (todoI s).take m := by
    unfold todoI
    rw [← List.map_take, List.dropLast_eq_take, hm]
    rfl
  rw [e]
  exact k.keep hg (.inr h.tg) (fun _ h => h.elim)
theorem Wk.last {B : Nat} {w : World} {g gs go : Nat} {s : WSt} {T : Nat → Prop} {hs : List Rh} {a7 : Option Addr} {m c : Nat} (h : Wk B w g gs go n pa rg gn a3 nA c3 a4 c4 s T (.slice a7 (m + 1) c) hs) (hm : s.todo.length = m + 1) :
    ∃ gv a, a7 = some ⟨gv, 0, none⟩ ∧ s.todo.getLast? = some a ∧ w.cell? ⟨gv, m, none⟩ = some (.int .i64 (a : Nat)) ∧ gv < w.heap.size ∧ m + 1 ≤ c := by
  rcases own_cells h.todo with ⟨h1, -⟩ | ⟨g2, c2, cs, he, hg, hb, hcl, hnc, hcm, ht⟩
  · cases h1
  injection he with e1 e2 e3
  subst e1 e3
  have hl : (todoI s).length = m + 1 := e2.symm
  obtain ⟨a, ha⟩ : ∃ a, s.todo[m]? = some a := ⟨_, List.getElem?_eq_getElem (by omega)⟩
  refine ⟨g2, a, rfl, by rw [List.getLast?_eq_getElem?, hm]; exact ha, hb.cell ?_, hb.lt, by omega⟩
  have h2 : (cs.take (todoI s).length)[m]? = some (.int .i64 (a : Nat)) := by
    rw [ht]; unfold intsV todoI; simp [ha]
  rw [List.getElem?_take] at h2
  split at h2
  · exact h2
  · cases h2
def TriesPost (w : World) (pa rg : Int) (gn : Bool) (a3 : Option Addr) (nA c3 : Nat) (a4 : Option Addr) (n c4 : Nat) (code : List Api.Ins) (e : Ending) (w' : World) : Prop :=
  ∃ g gs go T vT hs, e = .returned (.tuple #[.slice (some ⟨go, 0, none⟩) n n, .slice (some ⟨gs, 0, none⟩) n n, .bool (!(triesOf code).bad)]) ∧ Wk w.heap.size w' g gs go n pa rg gn a3 nA c3 a4 c4 (triesOf code) T vT hs ∧ RowKit.Below w.heap.size w w'
set_option maxRecDepth 100000 in
set_option maxHeartbeats 1000000 in
theorem tries_any {C : Nat → Prop} {w : World} {code : List Api.Ins} (hc : Arr C w a4 code) (hC : ∀ b, C b → b < w.heap.size) (hcl : code.length = n) (hA : Aims code) (hn : n ≤ 1000) :
    Calls Tryd.prog 115 #[.agg #[.int .i64 pa, .int .i64 rg, .bool gn, .slice a3 nA c3, .slice a4 n c4]] w (TriesPost w pa rg gn a3 nA c3 a4 n c4 code) := by
  have hbx := blk_new w [.int .i64 pa, .int .i64 rg, .bool gn, .slice a3 nA c3, .slice a4 n c4] 123
  have hb0 : RowKit.Below w.heap.size w (w.alloc (.cells #[.int .i64 pa, .int .i64 rg, .bool gn, .slice a3 nA c3, .slice a4 n c4] 123)) := belowN (RowKit.Below.refl _ _) _
  obtain ⟨w1, hw1⟩ : ∃ w1, w1 = w.alloc (.cells #[.int .i64 pa, .int .i64 rg, .bool gn, .slice a3 nA c3, .slice a4 n c4] 123) := ⟨_, rfl⟩
  rw [← hw1] at hbx hb0
  obtain ⟨gb, hgb⟩ : ∃ gb, gb = w.heap.size := ⟨_, rfl⟩
  have hlt := hbx.lt
  have HX : Hid (∀ W, RowKit.Below w1.heap.size w1 W → W.cell? ⟨w.heap.size, 0, none⟩ = some (.int .i64 pa) ∧ W.cell? ⟨w.heap.size, 1, none⟩ = some (.int .i64 rg) ∧ W.cell? ⟨w.heap.size, 2, none⟩ = some (.bool gn) ∧ W.cell? ⟨w.heap.size, 3, none⟩ = some (.slice a3 nA c3) ∧ W.cell? ⟨w.heap.size, 4, none⟩ = some (.slice a4 n c4)) := fun W hb => by
    have h := hbx.keep (hb.block _ hlt)
    exact ⟨h.cell (j := 0) rfl, h.cell (j := 1) rfl, h.cell (j := 2) rfl, h.cell (j := 3) rfl, h.cell (j := 4) rfl⟩
  have HCO : Hid (∀ W, RowKit.Below w.heap.size w W → Arr C W a4 code) := fun W hb => hc.keep fun b hb' => hb.block b (hC b hb')
  have HB0 := Lib.hid hb0
  go_enter Tryd.func115, Tryd.ntmps115
  go_upto_region 1 with fail
  rw [← hw1]
  clear hw1 hbx hc hb0 hgb
  obtain ⟨p0, p1, p2, p3, p4⟩ := HX.out w1 (RowKit.Below.refl _ _)
  have hmk1 := fun W => run_make_row' (P := Tryd.prog) 87 4 (.bool false) 1 Tryd.underlying87 Tryd.info4 rfl .i64 .i64 n (by omega) (by omega) W
  have hmk2 := fun W => run_make_row' (P := Tryd.prog) 174 211 (.slice none 0 0) 24 Tryd.underlying174 Tryd.info211 rfl .i64 .i64 n (by omega) (by omega) W
  go_cut [5] (fun s5 wz => ∃ g gs go : Nat, s5 = .pointer (some ⟨g, 0, none⟩) ∧ Wk w.heap.size wz g gs go n pa rg gn a3 nA c3 a4 c4 ⟨List.replicate n false, List.replicate n [], [], false⟩ (fun _ => False) (.slice none 0 0) (List.replicate n (none, 0)) ∧ RowKit.Below w.heap.size w wz)
  case first =>
    go_region_held3 (fun w' => w'.cell? ⟨w.heap.size, 0, none⟩ = some (.int .i64 pa) ∧ w'.cell? ⟨w.heap.size, 1, none⟩ = some (.int .i64 rg) ∧ w'.cell? ⟨w.heap.size, 2, none⟩ = some (.bool gn) ∧ w'.cell? ⟨w.heap.size, 3, none⟩ = some (.slice a3 nA c3) ∧ w'.cell? ⟨w.heap.size, 4, none⟩ = some (.slice a4 n c4))
      (first
        | exact ⟨p0, p1, p2, p3, p4⟩
        | exact HX.out _ (by repeat (first | exact RowKit.Below.refl _ _ | refine belowN ?_ _ | refine RowKit.Below.drew ?_)))
      (fail)
    all_goals go_wp2_with fail
    all_goals go_meet
    · obtain ⟨k1, k2, k3, k4⟩ := three w1 (madeCells #[.bool false] n) (madeCells #[.slice none 0 0] n) _ 4 211 200 _ rfl
      rw [made_list] at k1 k2
      exact ⟨_, _, _, rfl, Wk.start k3 k1 k2 (by omega) (by omega) (by omega) (by omega) (by omega) (by omega), HB0.out.trans (k4.mono HB0.out.size)⟩
    · obtain ⟨k1, k2, k3, k4⟩ := three w1 (madeCells #[.slice none 0 0] n) (madeCells #[.bool false] n) _ 211 4 200 _ rfl
      rw [made_list] at k1 k2
      exact ⟨_, _, _, rfl, Wk.start k3 k2 k1 (by omega) (by omega) (by omega) (by omega) (by omega) (by omega), HB0.out.trans (k4.mono HB0.out.size)⟩
  case rest =>
    clear p0 p1 p2 p3 p4 hmk1 hmk2 HX
    obtain ⟨g, gs, go, rfl, hwk, hbw⟩ := hcut
    have hI0 : Inv n ⟨List.replicate n false, List.replicate n [], [], false⟩ := ⟨⟨by simp, by simp, fun a ha => by simp at ha⟩, by unfold cod.many; simp, fun l hl => by rw [(List.mem_replicate.1 hl).2]; simp⟩
    have HWK := Lib.hid hwk; have HBW := Lib.hid hbw
    have HRW : Hid (RowOf (fun _ => False) wc (none, 0) []) := ⟨Arr.nil _ _ _, fun _ => rfl, Nat.le_refl _, by simp [maxLen]⟩
    obtain ⟨w2, hw2⟩ : ∃ w2 : World, w2 = wc := ⟨_, rfl⟩
    rw [← hw2] at HWK HBW HRW ⊢
    clear hwk hbw hw2
    go_upto_region 3 with (go_at_call 150; refine (come_any (at' := 0) (x := (none, 0)) (l := []) (m := 0) HWK.out HRW.out rfl (Int.le_refl _) hn (by simp) (by omega)).mono ?_; rintro e w3 ⟨rfl, vT3, hs3, hwk3, hbw3, -⟩; have HWK3 := Lib.hid hwk3; have HBW3 := Lib.hid (HBW.out.trans hbw3); clear hwk3 hbw3)
    have HST : Hid (LoopAt w g gs go n pa rg gn a3 nA c3 a4 c4 code n w3) := ⟨0, _, vT3, hs3, (start_ok n).2, Inv.start n, HWK3.out, HBW3.out⟩
    go_loopg [] n (fun q wr => LoopAt w g gs go n pa rg gn a3 nA c3 a4 c4 code q wr)
    case atStart => exact HST.out
    case round =>
      obtain ⟨j, T, vT, hs, hq, hI, hwk, hbw⟩ := hrel
      subst hcl
      obtain ⟨s, hs'⟩ : ∃ s, s = iter code j (start code.length) := ⟨_, rfl⟩
      rw [← hs'] at hq hI hwk
      have q5 := hwk.box.cell (j := 5) rfl; have q6 := hwk.box.cell (j := 6) rfl; have q7 := hwk.box.cell (j := 7) rfl; have q8 := hwk.box.cell (j := 8) rfl
      have f7 := hwk.box.frozen 7
      have hlg := hwk.box.lt
      obtain ⟨a7, c7, rfl, k1, k2, k3, k4⟩ := hwk.todo.arrC
      obtain ⟨m, hm⟩ : ∃ m, m = (todoI s).length := ⟨_, rfl⟩
      have hm1 : m ≤ 1000 := by rw [hm]; unfold todoI; have := hI.todo; simp; omega
      rw [← hm] at hwk q7 k1
      have HM := Lib.hid hm; have HI := Lib.hid hI; have HWK4 := Lib.hid hwk; have HBW4 := Lib.hid hbw; have HSJ := Lib.hid hs'; have HQ := Lib.hid hq
      have hsb : s.bad = true ∨ s.bad = false := by cases s.bad <;> simp
      obtain ⟨sb, hsb'⟩ : ∃ b, b = s.bad := ⟨_, rfl⟩
      have HSB := Lib.hid hsb'
      rw [← hsb'] at q8
      clear hm hI hwk hbw hs' hq HST hsb hsb'
      by_cases hh : m = 0 ∨ sb = true
      · have HEND : Hid (triesOf code = s) := by
          show _ = _
          rw [HSJ.out]
          refine tries_at hA ?_
          rw [← HSJ.out]
          unfold halted
          rcases hh with h | h
          · have : s.todo = [] := List.eq_nil_of_length_eq_zero (by have := HM.out; rw [h] at this; unfold todoI at this; simpa using this.symm)
            rw [this]; rfl
          · rw [← HSB.out, h]; simp
        rcases (show m = 0 ∨ (0 < m ∧ sb = true) by rcases hh with h | h; exact .inl h; by_cases h0 : m = 0; exact .inl h0; exact .inr ⟨by omega, h⟩) with d | ⟨d, d1⟩
        · have d0 : decide (0 < m) = false := by simp [d]
          clear hh d
          go_wp2_with fail
          go_quiet (fail)
          go_wp2_with fail
          go_ret3
          exact ⟨g, gs, go, T, _, hs, by rw [HEND.out, ← HSB.out]; rfl, by rw [HEND.out]; exact HWK4.out.keep (((Quiet.refl _).more nq).below _), HBW4.out.trans (((Quiet.refl _).more nq).below _)⟩
        · have d0 : decide (0 < m) = true := by simp [d]
          subst d1
          clear hh
          go_wp2_with fail
          go_quiet (fail)
          go_wp2_with fail
          go_ret3
          exact ⟨g, gs, go, T, _, hs, by rw [HEND.out, ← HSB.out]; rfl, by rw [HEND.out]; exact HWK4.out.keep (((Quiet.refl _).more nq).below _), HBW4.out.trans (((Quiet.refl _).more nq).below _)⟩
      · have hm0 : 0 < m := by omega
        have hsf : sb = false := by cases sb <;> simp_all
        subst hsf
        clear hh
        obtain ⟨m', rfl⟩ : ∃ m', m = m' + 1 := ⟨m - 1, by omega⟩
        obtain ⟨gv, a, rfl, hla, c7v, hgv, hmc⟩ := HWK4.out.last (by have := HM.out; unfold todoI at this; simpa using this.symm)
        have HLA := Lib.hid hla
        have wm : IntKind.i64.wrap (m' : Int) = (m' : Int) := by rw [IntKind.wrap_i64]; omega
        have hsl : ∀ w' : World, (Instr.slice 58 (.slice (some ⟨gv, 0, none⟩) (m' + 1) c7) none (some (.int .i64 (m' : Int))) none).run Tryd.prog w' = .ok (.slice (some ⟨gv, 0, none⟩) m' c7) w' := fun w' =>
          run_slice_head (z := 1) Tryd.underlying58 (by kernel_rfl) _ (m' + 1) c7 m' (by omega) w'
        clear hla
        go_wp2_with fail
        go_quiet (fail)
        go_wp2_with fail
        have HWQ := Lib.hid (HWK4.out.keep (((Quiet.refl _).more nq).below _))
        have HBQ := Lib.hid (HBW4.out.trans (((Quiet.refl _).more nq).below _))
        generalize hwq : World.drewN wr nq = wq at HWQ HBQ ⊢
        have hgvq : gv < wq.heap.size := by rw [← hwq]; exact hgv
        clear q5 q6 q7 q8 f7 hwq c7v hgv hlg
        have q7 := HWQ.out.box.cell (j := 7) rfl; have f7 := HWQ.out.box.frozen 7
        have hlg := HWQ.out.box.lt
        go_still_tail 14, (by kernel_rfl)
        change wpList _ _ _ _ _ wq.drew
        have hlen : s.todo.length = m' + 1 := by have := HM.out; unfold todoI at this; simpa using this.symm
        have HPOP : Hid (Wk w.heap.size (wq.setCell ⟨g, 7, none⟩ (.slice (some ⟨gv, 0, none⟩) m' c7)).drew g gs go code.length pa rg gn a3 nA c3 a4 c4 { s with todo := s.todo.dropLast } T (.slice (some ⟨gv, 0, none⟩) m' c7) hs) := (HWQ.out.pop hlen).keep (((Quiet.refl _).more 1).below _)
        have HBP : Hid (RowKit.Below w.heap.size w (wq.setCell ⟨g, 7, none⟩ (.slice (some ⟨gv, 0, none⟩) m' c7)).drew) := (below_st HBQ.out HWQ.out.bg).trans (((Quiet.refl _).more 1).below _)
        have hak : a < code.length := HI.out.ok.todo a (List.mem_of_getLast? HLA.out)
        have HFR : Hid (Calls Tryd.prog 151 #[.pointer (some ⟨g, 0, none⟩), .int .i64 a] (wq.setCell ⟨g, 7, none⟩ (.slice (some ⟨gv, 0, none⟩) m' c7)).drew (FromPost w.heap.size (wq.setCell ⟨g, 7, none⟩ (.slice (some ⟨gv, 0, none⟩) m' c7)).drew g gs go code.length pa rg gn a3 nA c3 a4 c4 (from' code { s with todo := s.todo.dropLast } a) T)) :=
          from_any HPOP.out (HCO.out _ HBP.out) hC rfl HI.out.drop hA hak hn
        have HRD : Hid (iter code (j + 1) (start code.length) = from' code { s with todo := s.todo.dropLast } a ∧ many (iter code (j + 1) (start code.length)) + 1 ≤ many s ∧ Inv code.length (iter code (j + 1) (start code.length))) := by
          have hnh : halted s = false := by
            unfold halted
            rw [← HSB.out, Bool.or_false]
            cases hs2 : s.todo with
            | nil => rw [hs2] at hlen; simp at hlen
            | cons _ _ => rfl
          have e1 : iter code (j + 1) (start code.length) = round code s := by
            rw [iter_succ, ← HSJ.out, hnh]; rfl
          rw [e1]
          exact ⟨by unfold round; rw [HLA.out], (round_ok HI.out.ok hA hnh).2, HI.out.round hA⟩
        go_wp2_with fail
        clear hlen hak q7 f7 hlg wm hsl hmc
        (with_reducible refine HFR.out.mono ?_)
        (rintro e w5 ⟨rfl, vT5, hs5, T5, ht5, hwk5, hbw5⟩; have HWK5 := Lib.hid hwk5; have HBW5 := Lib.hid (HBP.out.trans hbw5); clear ht5 hwk5 hbw5)
        go_wp2_with fail
        go_roundg (gk - 1)
        case measure => have := HRD.out.2.1; have := HQ.out; omega
        case rel => exact ⟨j + 1, T5, vT5, hs5, by have := HRD.out.2.1; have := HQ.out; omega, HRD.out.2.2, by rw [HRD.out.1]; exact HWK5.out, HBW5.out⟩
end
end Go.Proofs.YtekofpigmggbbaaDoor.cod

/- code.Check: function: walked. -/
namespace Go.Proofs.YtekofpigmggbbaaDoor.cod
open Go.Bk Go.RowKit Go.Proofs.YtekofpigmggbbaaDoor.funs

theorem all_idx {α : Type} {l : List α} {g : α × Nat → Bool} : l.zipIdx.all g = true ↔ ∀ (j : Nat) x, l[j]? = some x → g (x, j) = true := by
  rw [List.all_eq_true]
  constructor
  · intro h j x hx
    exact h (x, j) (List.mem_zipIdx_iff_getElem?.2 hx)
  · rintro h ⟨x, j⟩ hm
    exact h j x (List.mem_zipIdx_iff_getElem?.1 hm)
theorem all_idx_not {α : Type} {l : List α} {g : α × Nat → Bool} {j : Nat} {x : α} (hx : l[j]? = some x) (h : g (x, j) = false) : l.zipIdx.all g = false := by
  rw [Bool.eq_false_iff]
  intro h2
  rw [all_idx.1 h2 j x hx] at h
  cases h
theorem aims_of {p : Api.Prog} {f : Api.Fn} (h : ∀ (j : Nat) i, f.Code[j]? = some i → ordr p f j i = true) : Aims f.Code := by
  intro a i hi
  have h1 := h a i hi
  unfold ordr at h1
  refine ⟨fun hc => ?_, fun hc => ?_⟩
  · have hf : frm i.Op = some (97, 45, 45) := by rcases hc with hc | hc <;> rw [hc] <;> rfl
    rw [hf] at h1
    simp only [Bool.and_eq_true] at h1
    have := h1.2.1
    simp only [nam, show ((97 : UInt8) = 114) = False by decide, show ((97 : UInt8) = 107) = False by decide, show ((97 : UInt8) = 116) = False by decide, if_false, if_true] at this
    exact (within_iff.1 this).1
  · have hf : frm i.Op = some (114, 97, 45) := by rcases hc with hc | hc <;> rw [hc] <;> rfl
    rw [hf] at h1
    simp only [Bool.and_eq_true] at h1
    have := h1.2.2.1
    simp only [nam, show ((97 : UInt8) = 114) = False by decide, show ((97 : UInt8) = 107) = False by decide, show ((97 : UInt8) = 116) = False by decide, if_false, if_true] at this
    exact (within_iff.1 this).1
/-- A program, as the walks have it. -/
structure PgAt (S : Nat → Prop) (w : World) (a0 a1 a2 : Option Addr) (nF nC nT : Nat) (p : Api.Prog) : Prop where
  fns : Arr S w a0 p.Fns
  consts : Arr S w a1 p.Consts
  texts : Arr S w a2 p.Texts
  lenF : nF = p.Fns.length
  lenC : nC = p.Consts.length
  lenT : nT = p.Texts.length
  nilT : a2 = none → nT = 0
theorem PgAt.keep {S : Nat → Prop} {w w' : World} {a0 a1 a2 : Option Addr} {nF nC nT : Nat} {p : Api.Prog} (h : PgAt S w a0 a1 a2 nF nC nT p) (hb : ∀ b, S b → w'.heap[b]? = w.heap[b]?) : PgAt S w' a0 a1 a2 nF nC nT p :=
  ⟨h.fns.keep hb, h.consts.keep hb, h.texts.keep hb, h.lenF, h.lenC, h.lenT, h.nilT⟩
def OkTo (p : Api.Prog) (f : Api.Fn) (k : Nat) : Prop := ∀ (j : Nat) i, j < k → f.Code[j]? = some i → ordr p f j i = true
theorem OkTo.succ {p : Api.Prog} {f : Api.Fn} {k : Nat} (h : OkTo p f k) {i : Api.Ins} (hi : f.Code[k]? = some i) (ho : ordr p f k i = true) : OkTo p f (k + 1) := fun j x hj hx => by
  by_cases e : j = k
  · subst e; rw [hi] at hx; exact Option.some.inj hx ▸ ho
  · exact h j x (by omega) hx
section
variable {a0 a1 a2 a3 a4 : Option Addr} {nF c0 nC c1 nT c2 nA c3 nO c4 : Nat} {pa rg : Int} {gn : Bool}
abbrev pgV (a0 a1 a2 : Option Addr) (nF c0 nC c1 nT c2 : Nat) : Value := .agg #[.slice a0 nF c0, .slice a1 nC c1, .slice a2 nT c2]
abbrev fnV (a3 a4 : Option Addr) (nA c3 nO c4 : Nat) (pa rg : Int) (gn : Bool) : Value := .agg #[.int .i64 pa, .int .i64 rg, .bool gn, .slice a3 nA c3, .slice a4 nO c4]
set_option maxRecDepth 100000 in
set_option maxHeartbeats 1000000 in
theorem function_any {S : Nat → Prop} {w : World} {p : Api.Prog} {f : Api.Fn} (h : PgAt S w a0 a1 a2 nF nC nT p) (hA : Arr S w a3 f.Caught) (hC : Arr S w a4 f.Code) (hS : ∀ b, S b → b < w.heap.size) (eA : nA = f.Caught.length) (eO : nO = f.Code.length) (eP : pa = f.Params) (eR : rg = f.Regs) (eG : gn = f.Gen)
    (bF : nF ≤ 1000) (bC : nC ≤ 1000) (bT : nT ≤ 1000) (bO : nO ≤ 1000) (bR : rg ≤ 1000) :
    Calls Tryd.prog 73 #[pgV a0 a1 a2 nF c0 nC c1 nT c2, fnV a3 a4 nA c3 nO c4 pa rg gn] w fun e w' => e = .returned (.bool (funcOk p f)) ∧ RowKit.Below w.heap.size w w' := by
  obtain ⟨w3, hw3⟩ : ∃ w3, w3 = ((w.alloc (.cells #[.slice a0 nF c0, .slice a1 nC c1, .slice a2 nT c2] 26)).alloc (.cells #[.int .i64 pa, .int .i64 rg, .bool gn, .slice a3 nA c3, .slice a4 nO c4] 123)).alloc (.cells #[.slice a0 nF c0, .slice a1 nC c1, .slice a2 nT c2, .int .i64 pa, .int .i64 rg, .bool gn, .slice a3 nA c3, .slice a4 nO c4] 170) := ⟨_, rfl⟩
  have H3 : Hid (Blk w3 (w.heap.size + 1) 123 [.int .i64 pa, .int .i64 rg, .bool gn, .slice a3 nA c3, .slice a4 nO c4] ∧ Blk w3 (w.heap.size + 1 + 1) 170 (lkC a0 a1 a2 a3 a4 nF c0 nC c1 nT c2 nA c3 nO c4 pa rg gn) ∧ RowKit.Below w.heap.size w w3) := by
    have k := three w #[.slice a0 nF c0, .slice a1 nC c1, .slice a2 nT c2] #[.int .i64 pa, .int .i64 rg, .bool gn, .slice a3 nA c3, .slice a4 nO c4] #[.slice a0 nF c0, .slice a1 nC c1, .slice a2 nT c2, .int .i64 pa, .int .i64 rg, .bool gn, .slice a3 nA c3, .slice a4 nO c4] 26 123 170 _ rfl
    rw [← hw3] at k
    exact ⟨k.2.1, k.2.2.1, k.2.2.2.os, k.2.2.2.tape, k.2.2.2.output, k.2.2.2.size, k.2.2.2.block⟩
  have HH := Lib.hid h; have HA := Lib.hid hA; have HC := Lib.hid hC; have HS := Lib.hid hS
  have HE : Hid (nA = f.Caught.length ∧ nO = f.Code.length ∧ pa = f.Params ∧ rg = f.Regs ∧ gn = f.Gen) := ⟨eA, eO, eP, eR, eG⟩
  have HFO : Hid (funcOk p f = if pa < 0 ∨ rg < 1 ∨ rg < pa then false else if (f.Code.zipIdx.all fun x => ordr p f x.2 x.1) = false then false else !(triesOf f.Code).bad) := by
    show _ = _
    unfold funcOk
    rw [eP, eR]
  clear h hA hC hS eA eO eP eR eG
  go_enter Tryd.func73, Tryd.ntmps73
  go_upto_region 2 with fail
  rw [← hw3]
  clear hw3
  have hl2 := H3.out.2.1.lt
  have hl1 : w.heap.size + 1 < w3.heap.size := by omega
  have HCE : Hid (∀ W, RowKit.Below w3.heap.size w3 W → Blk W (w.heap.size + 1) 123 [.int .i64 pa, .int .i64 rg, .bool gn, .slice a3 nA c3, .slice a4 nO c4] ∧ Blk W (w.heap.size + 1 + 1) 170 (lkC a0 a1 a2 a3 a4 nF c0 nC c1 nT c2 nA c3 nO c4 pa rg gn)) := fun W hb => ⟨H3.out.1.keep (hb.block _ hl1), H3.out.2.1.keep (hb.block _ hl2)⟩
  have k1 := H3.out.1
  have p0 := k1.cell (j := 0) rfl; have p1 := k1.cell (j := 1) rfl; have p4 := k1.cell (j := 4) rfl
  clear k1
  by_cases hbad : pa < 0 ∨ rg < 1 ∨ rg < pa
  · have HFO : Hid (funcOk p f = false) := by show _ = _; rw [HFO.out, if_pos hbad]
    rcases (show pa < 0 ∨ (¬ pa < 0 ∧ rg < 1) ∨ (¬ pa < 0 ∧ ¬ rg < 1 ∧ rg < pa) by omega) with d | ⟨d, d1⟩ | ⟨d, d1, d2⟩
    all_goals
      clear hbad
      go_wp2_with fail
      go_ret
      exact ⟨by rw [HFO.out]; rfl, H3.out.2.2⟩
  have d1 : ¬ pa < 0 := by omega
  have d2 : ¬ rg < 1 := by omega
  have d3 : ¬ rg < pa := by omega
  have HFO : Hid (funcOk p f = if (f.Code.zipIdx.all fun x => ordr p f x.2 x.1) = false then false else !(triesOf f.Code).bad) := by show _ = _; rw [HFO.out, if_neg hbad]
  clear hbad
  have HLK : Hid (∀ W, RowKit.Below w3.heap.size w3 W → LkAt S W a0 a3 a4 nF nC nT nA nO rg gn p f ∧ (∀ b, S b → b < W.heap.size) ∧ RowKit.Below w.heap.size w W) := fun W hb => by
    have hbw : RowKit.Below w.heap.size w W := H3.out.2.2.trans (hb.mono H3.out.2.2.size)
    have hk : ∀ b, S b → W.heap[b]? = w.heap[b]? := fun b hb' => hbw.block b (HS.out b hb')
    refine ⟨⟨HH.out.fns.keep hk, HA.out.keep hk, HC.out.keep hk, HH.out.lenF, HH.out.lenC, HH.out.lenT, HE.out.1, HE.out.2.1, HE.out.2.2.2.1, HE.out.2.2.2.2, by omega, bR, bF, bC, bT, bO⟩, fun b hb' => Nat.lt_of_lt_of_le (HS.out b hb') hbw.size, hbw⟩
  go_wp2_with fail
  go_loopw [32] (fun i wr => ∃ k : Nat, k ≤ nO ∧ i = .int .i64 k ∧ OkTo p f k ∧ RowKit.Below w3.heap.size w3 wr) (fun i _ => nO - (intOf i).toNat)
  case atStart => exact ⟨0, Nat.zero_le _, rfl, fun j x hj => by omega, RowKit.Below.refl _ _⟩
  case round =>
    obtain ⟨k, hk, rfl, hok, hbr⟩ := hrel
    have HOK := Lib.hid hok; have HBR := Lib.hid hbr
    obtain ⟨q1, q2⟩ := HCE.out wr hbr
    have hbz := hbr.size
    clear hok hbr p0 p1 p4
    by_cases hlt : k < nO
    · obtain ⟨i, hi⟩ : ∃ i, f.Code[k]? = some i := ⟨_, List.getElem?_eq_getElem (by rw [← HE.out.2.1]; exact hlt)⟩
      obtain ⟨bc, oc, rfl, hSb, y0, y1, y2, y3, y4, -⟩ := api_Ins_elem (HLK.out wr HBR.out).1.code hi
      have hbc := (HLK.out wr HBR.out).2.1 bc hSb
      have r0 := q2.cell (j := 0) rfl; have r1 := q2.cell (j := 1) rfl; have r2 := q2.cell (j := 2) rfl; have r3 := q2.cell (j := 3) rfl; have r4 := q2.cell (j := 4) rfl; have r5 := q2.cell (j := 5) rfl; have r6 := q2.cell (j := 6) rfl; have r7 := q2.cell (j := 7) rfl
      have hql := q2.lt
      have HI := Lib.hid hi
      obtain ⟨ok, hok⟩ : ∃ ok, ok = ordr p f k i := ⟨_, rfl⟩
      have HO : Hid (∀ W, RowKit.Below wr.heap.size wr W → Calls Tryd.prog 114 #[lkV a0 a1 a2 a3 (some ⟨bc, oc, none⟩) nF c0 nC c1 nT c2 nA c3 nO c4 pa rg gn, .int .i64 k, .agg #[.int .i64 i.Op, .int .i64 i.A, .int .i64 i.B, .int .i64 i.C, .int .i64 i.Line]] W fun e w' => e = .returned (.bool ok) ∧ RowKit.Below w3.heap.size w3 w') := fun W hb => by
        have hb3 : RowKit.Below w3.heap.size w3 W := HBR.out.trans (hb.mono HBR.out.size)
        obtain ⟨l1, l2, l3⟩ := HLK.out W hb3
        refine (order_any (i := i) (k := k) l1 l2).mono ?_
        rintro e w' ⟨rfl, hw'⟩
        exact ⟨by rw [hok], hb3.trans (hw'.mono hb3.size)⟩
      have HOK2 := Lib.hid hok
      clear q1 q2 hi hok hSb
      go_wp2_with fail
      refine (HO.out _ (belowN (RowKit.Below.refl _ _) _)).mono ?_
      rintro e w5 ⟨rfl, hb5⟩
      have HB5 := Lib.hid hb5
      clear hb5 y0 y1 y2 y3 y4 r0 r1 r2 r3 r4 r5 r6 r7 HO
      cases ok with
      | false =>
        have HF : Hid (funcOk p f = false) := by
          show _ = _
          rw [HFO.out, if_pos (all_idx_not (g := fun x => ordr p f x.2 x.1) HI.out HOK2.out.symm)]
        go_wp2_with fail
        go_ret
        exact ⟨by rw [HF.out]; rfl, (HLK.out _ HB5.out).2.2⟩
      | true =>
        go_wp2_with fail
        go_roundw
        case rel => exact ⟨k + 1, by omega, by go_num, HOK.out.succ HI.out HOK2.out.symm, HB5.out⟩
        case measure => simp [intOf]; omega
    · have hall : ∀ (j : Nat) i, f.Code[j]? = some i → ordr p f j i = true := fun j i hi => HOK.out j i (by have := (List.getElem?_eq_some_iff.1 hi).1; have := HE.out.2.1; omega) hi
      have HF : Hid (funcOk p f = !(triesOf f.Code).bad) := by
        show _ = _
        have hz : (f.Code.zipIdx.all fun x => ordr p f x.2 x.1) = true := all_idx.2 hall
        rw [HFO.out, if_neg (by rw [hz]; simp)]
      have r0 := q1.cell (j := 0) rfl; have r1 := q1.cell (j := 1) rfl; have r2 := q1.cell (j := 2) rfl; have r3 := q1.cell (j := 3) rfl; have r4 := q1.cell (j := 4) rfl
      have hql := q1.lt
      have HTR : Hid (Calls Tryd.prog 115 #[.agg #[.int .i64 pa, .int .i64 rg, .bool gn, .slice a3 nA c3, .slice a4 nO c4]] wr (TriesPost wr pa rg gn a3 nA c3 a4 nO c4 f.Code)) := by
        obtain ⟨l1, l2, l3⟩ := HLK.out wr HBR.out
        exact tries_any l1.code l2 HE.out.2.1.symm (aims_of hall) bO
      clear q1 q2 hall
      go_wp2_with (go_at_call 115; (with_reducible refine HTR.out.mono ?_); rintro e w5 ⟨g, gs, go, T, vT, hs, rfl, -, hb5⟩; have HB5 := Lib.hid (HBR.out.trans (hb5.mono HBR.out.size)); clear hb5)
      go_ret
      exact ⟨by rw [HF.out]; rfl, (HLK.out _ HB5.out).2.2⟩
end
end Go.Proofs.YtekofpigmggbbaaDoor.cod

/- code.Check: large, Right: walked. -/
namespace Go.Proofs.YtekofpigmggbbaaDoor.cod
open Go.Bk Go.RowKit Go.Proofs.YtekofpigmggbbaaDoor.funs

def bigF (f : Api.Fn) : Bool := decide (600 < f.Code.length) || decide (60 < f.Regs)
set_option maxRecDepth 100000 in
theorem largeS_any (w : World) (t : ByteArray) : Calls Tryd.prog 106 #[.string t] w fun e w' => e = .returned (.bool (decide (200 < t.size))) ∧ w = w' := by
  by_cases h : 200 < t.size
  all_goals
    go_enter Tryd.func106, Tryd.ntmps106
    go_wp2
    go_ret
    exact ⟨by simp [h]; omega, rfl⟩
set_option maxRecDepth 100000 in
theorem largeF_any {S : Nat → Prop} {w : World} {cs : List Value} {f : Api.Fn} (h : Rep.cells S w cs f) : Calls Tryd.prog 107 #[.agg cs.toArray] w fun e w' => e = .returned (.bool (bigF f)) ∧ Grow w w' := by
  obtain ⟨a3, c3, a4, c4, rfl, -, -, hq3, hq4⟩ := api_Fn_cells_eq h
  obtain ⟨n4, hn4⟩ : ∃ n4, n4 = f.Code.length := ⟨_, rfl⟩
  have hs : n4 ≤ 9223372036854775807 := by rw [hn4]; have := hq4.2.2.small; unfold maxLen at this; omega
  have HE : Hid (bigF f = (decide (600 < n4) || decide (60 < f.Regs))) := by show _ = _; rw [hn4]; rfl
  have HG : Hid (∀ o, Grow w (w.alloc o)) := fun o => below_al2 o
  rw [← hn4]
  clear h hq3 hq4 hn4
  by_cases d1 : 600 < n4 <;> by_cases d2 : 60 < f.Regs
  all_goals
    go_enter Tryd.func107, Tryd.ntmps107
    go_wp2
    go_ret
    exact ⟨by rw [HE.out]; first | (simp [d1, d2]; done) | (simp [d1, d2]; omega), HG.out _⟩
section
variable {a0 a1 a2 : Option Addr} {nF c0 nC c1 nT c2 : Nat}
set_option maxRecDepth 100000 in
theorem large_any {S : Nat → Prop} {w : World} {p : Api.Prog} (h : PgAt S w a0 a1 a2 nF nC nT p) (hS : ∀ b, S b → b < w.heap.size) :
    Calls Tryd.prog 69 #[pgV a0 a1 a2 nF c0 nC c1 nT c2] w fun e w' => e = .returned (.bool (large p)) ∧ RowKit.Below w.heap.size w w' := by
  obtain ⟨x4, hx4⟩ : ∃ x, x = p.Texts.any (fun t => decide (200 < t.size)) := ⟨_, rfl⟩
  obtain ⟨x5, hx5⟩ : ∃ x, x = p.Fns.any bigF := ⟨_, rfl⟩
  have HL : Hid (large p = (decide (60 < nF) || (decide (200 < nC) || (decide (200 < nT) || (x4 || x5))))) := by
    show _ = _
    rw [hx4, hx5, h.lenF, h.lenC, h.lenT]; rfl
  have hb1 : ∀ o, RowKit.Below w.heap.size w (w.alloc o) := fun o => below_al2 o
  have HCS : Hid (∀ o, Calls Tryd.prog 105 #[.slice a2 nT c2, .func (.func 106) #[] #[]] (w.alloc o) fun e w' => e = .returned (.bool x4) ∧ w.alloc o = w') := fun o => by
    rw [hx4]
    exact containsS_any (F := 106) (caps := #[]) mild_eq h.lenT.symm (h.texts.keep fun b hb => (hb1 o).block b (hS b hb)) (fun b hb => Nat.lt_of_lt_of_le (hS b hb) (hb1 o).size) (fun _ _ => by simp)
      (fun y wx _ _ => by have := largeS_any wx y; simpa using this)
  have HCF : Hid (∀ o, Calls Tryd.prog 71 #[.slice a0 nF c0, .func (.func 107) #[] #[]] (w.alloc o) fun e w' => e = .returned (.bool x5) ∧ RowKit.Below w.heap.size w w') := fun o => by
    rw [hx5]
    have k := containsF_any (c := c0) (F := 107) (caps := #[]) (p := bigF) mild_grow h.lenF.symm (h.fns.keep fun b hb => (hb1 o).block b (hS b hb)) (fun b hb => Nat.lt_of_lt_of_le (hS b hb) (hb1 o).size) (fun _ _ => by simp)
      (fun y cs wx _ hc hg => by
        have := (largeF_any hc)
        simpa using this)
    exact k.mono fun e w' ⟨he, hg⟩ => ⟨he, (hb1 o).trans (hg.mono (hb1 o).size)⟩
  have HB := Lib.hid hb1
  clear h hS hx4 hx5 hb1
  by_cases d1 : 60 < nF
  · go_enter Tryd.func69, Tryd.ntmps69
    go_wp2
    go_ret
    exact ⟨by rw [HL.out]; simp [d1], HB.out _⟩
  by_cases d2 : 200 < nC
  · go_enter Tryd.func69, Tryd.ntmps69
    go_wp2
    go_ret
    exact ⟨by rw [HL.out]; simp [d1, d2], HB.out _⟩
  by_cases d3 : 200 < nT
  · go_enter Tryd.func69, Tryd.ntmps69
    go_wp2
    go_ret
    exact ⟨by rw [HL.out]; simp [d1, d2, d3], HB.out _⟩
  cases x4
  · go_enter Tryd.func69, Tryd.ntmps69
    go_wp2_with (first
      | (go_at_call 105; (with_reducible refine (HCS.out _).mono ?_); rintro e w2 ⟨rfl, rfl⟩)
      | (go_at_call 71; (with_reducible refine (HCF.out _).mono ?_); rintro e w2 ⟨rfl, hb2⟩; have HB2 := Lib.hid hb2; clear hb2))
    go_ret
    exact ⟨by rw [HL.out]; simp [d1, d2, d3]; intro hq; omega, HB2.out⟩
  · go_enter Tryd.func69, Tryd.ntmps69
    go_wp2_with (first
      | (go_at_call 105; (with_reducible refine (HCS.out _).mono ?_); rintro e w2 ⟨rfl, rfl⟩))
    go_ret
    exact ⟨by rw [HL.out]; simp [d1, d2, d3], HB.out _⟩
end
end Go.Proofs.YtekofpigmggbbaaDoor.cod

/- code.Check: ops.Right: walked. -/
namespace Go.Proofs.YtekofpigmggbbaaDoor.cod
open Go.Bk Go.RowKit Go.Proofs.YtekofpigmggbbaaDoor.funs

/-- Of a float's bits: it is a number. -/
def fltNum (n : Int) : Bool := decide (n % 9223372036854775808 ≤ 9218868437227405312)
def right (v : Api.Val) : Bool :=
  if v.Kind = 0 then decide (v.N = 0)
  else if v.Kind = 1 then within v.N 0 1
  else if v.Kind = 2 then within v.N (-2147483648) 2147483647
  else if v.Kind = 3 then fltNum v.N || decide (v.N = 9221120237041090561)
  else if v.Kind = 4 ∨ v.Kind = 5 then decide (0 ≤ v.N)
  else if v.Kind = 6 then within v.N 0 15
  else false
theorem order_self (d : Ieee.Datum) : (d.order d == some .eq) = !d.isNaN := by
  cases d with
  | number s m i => simp [Ieee.Datum.order, Ieee.Datum.isNaN]
  | infinity s => simp [Ieee.Datum.order, Ieee.Datum.isNaN]
  | nan s f => simp [Ieee.Datum.order, Ieee.Datum.isNaN]
theorem read_nan (b : Nat) : (Ieee.double.read b).isNaN = !decide (b % 9223372036854775808 ≤ 9218868437227405312) := by
  have e1 : Ieee.double.signWeight = 9223372036854775808 := by decide
  have e2 : Ieee.double.binade = 4503599627370496 := by decide
  have e3 : Ieee.double.infRung = 9218868437227405312 := by decide
  unfold Ieee.Format.read
  simp only [e1, e2, e3]
  split
  · rename_i h
    simp [Ieee.Datum.isNaN]; omega
  · split
    · simp [Ieee.Datum.isNaN]; omega
    · split
      · rename_i h
        simp [Ieee.Datum.isNaN, h]
      · simp [Ieee.Datum.isNaN]; omega
theorem flt_eq (n : Int) : Op.floatEq .f64 (IntKind.u64.wrap n).toNat (IntKind.u64.wrap n).toNat = fltNum n := by
  have h : ((IntKind.u64.wrap n).toNat : Int) = n % 18446744073709551616 := by
    have : IntKind.u64.wrap n = n % 18446744073709551616 := by simp [IntKind.wrap, IntKind.signed, IntKind.bits]
    rw [this]; omega
  show (Ieee.Datum.order _ _ == some .eq) = _
  rw [order_self]
  show (!(Ieee.double.read _).isNaN) = _
  rw [read_nan]
  unfold fltNum
  rw [Bool.not_not]
  have : (IntKind.u64.wrap n).toNat % 9223372036854775808 ≤ 9218868437227405312 ↔ n % 9223372036854775808 ≤ 9218868437227405312 := by omega
  simp [this]
set_option maxRecDepth 100000 in
theorem frombits_run (m : Int) (w : World) : (callFunc 158 #[.int .u64 m]).run Tryd.prog w = .ok (.value (.float .f64 m.toNat)) w := by
  rw [run_callFunc_extern (e := Extern.MathFloatBits.float64frombits) Tryd.func158 (by kernel_rfl) (by kernel_rfl) (by kernel_rfl) (by kernel_rfl)]
  rfl
set_option maxRecDepth 100000 in
theorem float_any (w : World) (k n : Int) : Calls Tryd.prog 144 #[.agg #[.int .i64 k, .int .i64 n]] w fun e w' => e = .returned (.float .f64 (IntKind.u64.wrap n).toNat) ∧ RowKit.Below w.heap.size w w' := by
  have HB : Hid (∀ o, RowKit.Below w.heap.size w (w.alloc o)) := fun o => below_al2 o
  have hr := fun w => frombits_run (IntKind.u64.wrap n) w
  go_enter Tryd.func144, Tryd.ntmps144
  go_wp2
  go_ret
  exact ⟨rfl, HB.out _⟩
set_option maxRecDepth 100000 in
theorem right_any (w : World) (v : Api.Val) : Calls Tryd.prog 112 #[.agg #[.int .i64 v.Kind, .int .i64 v.N]] w fun e w' => e = .returned (.bool (right v)) ∧ RowKit.Below w.heap.size w w' := by
  obtain ⟨k, n⟩ := v
  show Calls Tryd.prog 112 #[.agg #[.int .i64 k, .int .i64 n]] w _
  obtain ⟨w1, hw1⟩ : ∃ w1, w1 = w.alloc (.cells #[.int .i64 k, .int .i64 n] 41) := ⟨_, rfl⟩
  have HB1 : Hid (RowKit.Below w.heap.size w w1) := by show RowKit.Below _ _ _; rw [hw1]; exact below_al2 _
  have hbk := blk_new w [.int .i64 k, .int .i64 n] 41
  rw [← hw1] at hbk
  have p0 := hbk.cell (j := 0) rfl; have p1 := hbk.cell (j := 1) rfl
  have hlt := hbk.lt
  clear hbk
  have HWI : Hid (∀ (w : World) n lo hi, Calls Tryd.prog 143 #[.int .i64 n, .int .i64 lo, .int .i64 hi] w fun e w' => e = .returned (.bool (within n lo hi)) ∧ w = w') := fun w n lo hi => owithin_any w n lo hi
  have HR : Hid (right ⟨k, n⟩ = if k = 0 then decide (n = 0)
  else if k = 1 then within n 0 1
  else if k = 2 then within n (-2147483648) 2147483647
  else if k = 3 then fltNum n || decide (n = 9221120237041090561)
  else if k = 4 ∨ k = 5 then decide (0 ≤ n)
  else if k = 6 then within n 0 15
  else false) := rfl
  go_enter Tryd.func112, Tryd.ntmps112
  go_upto_region 1 with fail
  rw [← hw1]
  clear hw1
  by_cases k0 : k = 0
  · subst k0
    go_wp2
    go_ret
    exact ⟨by rw [HR.out]; simp [BEq.beq], HB1.out⟩
  have n0 : (k == 0) = false := by simpa using k0
  by_cases k1 : k = 1
  · subst k1
    go_wp2_with (go_at_call 143; (with_reducible refine (HWI.out _ _ _ _).mono ?_); rintro e w2 ⟨rfl, rfl⟩)
    go_ret
    exact ⟨by rw [HR.out]; rfl, HB1.out⟩
  have n1 : (k == 1) = false := by simpa using k1
  by_cases k2 : k = 2
  · subst k2
    go_wp2_with (go_at_call 143; (with_reducible refine (HWI.out _ _ _ _).mono ?_); rintro e w2 ⟨rfl, rfl⟩)
    go_ret
    exact ⟨by rw [HR.out]; rfl, HB1.out⟩
  have n2 : (k == 2) = false := by simpa using k2
  by_cases k3 : k = 3
  · subst k3
    have HFL : Hid (∀ d : Drift w1, Calls Tryd.prog 144 #[.agg #[.int .i64 3, .int .i64 n]] d.val fun e w' => e = .returned (.float .f64 (IntKind.u64.wrap n).toNat) ∧ RowKit.Below d.val.heap.size d.val w') := fun d => float_any _ _ _
    obtain ⟨m, hm⟩ : ∃ m, m = (IntKind.u64.wrap n).toNat := ⟨_, rfl⟩
    have hfe : (FloatKind.f64.format.order m m == some Ordering.eq) = fltNum n := by rw [hm]; exact flt_eq n
    rw [← hm] at HFL
    obtain ⟨q, hq⟩ : ∃ q, q = fltNum n := ⟨_, rfl⟩
    rw [← hq] at HR hfe
    clear hm hq
    clear k0 k1 k2
    cases q
    all_goals
      go_wp2_with fail
      first | (refine wp_region_drift_lit (by kernel_rfl) (by kernel_rfl) (fun hdr => ?_); (repeat (go_big_quiet_step ((go_at_call 144; with_reducible exact drift_of (HFL.out _))))); refine wpQuiet_nil ?_; intro wq hw'; obtain ⟨⟨wd, hbd⟩, hw''⟩ := hw'; dsimp only at hw''; subst wq; clear hdr)
      go_wp2_with fail
      go_ret
      exact ⟨by rw [HR.out]; simp [BEq.beq], HB1.out.trans (hbd.mono HB1.out.size)⟩
  have n3 : (k == 3) = false := by simpa using k3
  by_cases k4 : k = 4 ∨ k = 5
  · rcases (show k = 4 ∨ (k = 5 ∧ (k == 4) = false) by rcases k4 with h | h; exact .inl h; exact .inr ⟨h, by simp [h]⟩) with h | ⟨h, h2⟩
    all_goals
      subst h
      clear k4
      go_wp2
      go_ret
      exact ⟨by rw [HR.out]; simp, HB1.out⟩
  have n4 : (k == 4) = false := by simp; omega
  have n5 : (k == 5) = false := by simp; omega
  by_cases k6 : k = 6
  · subst k6
    go_wp2_with (go_at_call 143; (with_reducible refine (HWI.out _ _ _ _).mono ?_); rintro e w2 ⟨rfl, rfl⟩)
    go_ret
    exact ⟨by rw [HR.out]; rfl, HB1.out⟩
  have n6 : (k == 6) = false := by simpa using k6
  have HR2 : Hid (right ⟨k, n⟩ = false) := by show _ = _; rw [HR.out, if_neg k0, if_neg k1, if_neg k2, if_neg k3, if_neg k4, if_neg k6]
  clear k0 k1 k2 k3 k4 k6
  go_wp2
  go_ret
  exact ⟨by rw [HR2.out]; rfl, HB1.out⟩
end Go.Proofs.YtekofpigmggbbaaDoor.cod
