/- code.Check: from: walked. -/
import Derived.Test.YtjlnaiiajlahgaaDoorCodeD
import Derived.Test.YtjlnaiiajlahgaaDoorSteps
import Derived.StillTailTactics
set_option linter.unusedVariables false
set_option linter.unusedSimpArgs false
namespace Go.Proofs.YtjlnaiiajlahgaaDoor.cod
open Go.Bk Go.RowKit Go.Proofs.YtjlnaiiajlahgaaDoor.funs

/-- What holds of the walk's states. -/
structure Inv (n : Nat) (s : WSt) : Prop where
  ok : WOk n s
  many : many s ≤ n
  few : ∀ l ∈ s.out, l.length ≤ 20
theorem Inv.todo {n : Nat} {s : WSt} (h : Inv n s) : s.todo.length ≤ n := by have := h.many; unfold cod.many at this; omega
theorem Inv.row {n : Nat} {s : WSt} (h : Inv n s) {k : Nat} {l : Trs} (hl : s.out[k]? = some l) : l.length ≤ 20 := h.few l (List.mem_of_getElem? hl)
theorem Inv.come {n : Nat} {s : WSt} (h : Inv n s) {at' : Int} (l : Trs) (h0 : 0 ≤ at') : Inv n (come n s at' l) := by
  have k := come_ok (l := l) h.ok h0
  refine ⟨k.1, Nat.le_trans k.2.1 h.many, fun x hx => ?_⟩
  unfold cod.come at hx
  split at hx
  · exact h.few x hx
  · rename_i hc
    split at hx
    · rcases List.mem_or_eq_of_mem_set hx with hx | rfl
      · exact h.few x hx
      · omega
    · split at hx
      · exact h.few x hx
      · exact h.few x hx
theorem belowN {w w' : World} (h : RowKit.Below w.heap.size w w') (o : Obj) : RowKit.Below w.heap.size w (w'.alloc o) := h.alloc h.size o
theorem belowS {N : Nat} {w w' : World} (h : RowKit.Below N w w') {b j : Nat} (hb : N ≤ b) (v : Value) : RowKit.Below N w (w'.setCell ⟨b, j, none⟩ v) := h.setCell (p := ⟨b, j, none⟩) hb v
theorem own_wider {α : Type} [Rep α] {S : Nat → Prop} {w : World} {B B' : Nat} {e : TypeId} {v : Value} {xs : List α} (h : Go.Bk.Own S w B e v xs) (hB : B' ≤ B) : Go.Bk.Own S w B' e v xs := by
  obtain ⟨css, h1, h2, h3, h4⟩ := h
  refine ⟨css, h1, h2, h3, ?_⟩
  rcases h4 with h4 | ⟨g, cap, cur, e1, hb, h5⟩
  · exact .inl h4
  · exact .inr ⟨g, cap, cur, e1, Nat.le_trans hB hb, h5⟩
theorem arr_try {W : World} {x y : Int} (h1 : I64 x) (h2 : I64 y) : Arr (fun b => b = W.heap.size) (W.alloc (.cells #[.int .i64 x, .int .i64 y] 219)) (some ⟨W.heap.size, 0, none⟩) [(⟨x, y⟩ : Api.Try)] := by
  have hb := blk_new W [.int .i64 x, .int .i64 y] 219
  refine ⟨by simp [maxLen], .inr ⟨W.heap.size, 0, rfl, rfl, fun k z hk => ?_⟩⟩
  have hk0 : k = 0 := by have := (List.getElem?_eq_some_iff.1 hk).1; simp at this; exact this
  subst hk0
  simp at hk
  subst hk
  refine ⟨_, api_Try_cells_mk h1 h2, fun j hj => ?_⟩
  have hj2 : j < 2 := hj
  have : j = 0 ∨ j = 1 := by omega
  rcases this with rfl | rfl
  · exact hb.cell (j := 0) rfl
  · exact hb.cell (j := 1) rfl
theorem RowOf.keep {T : Nat → Prop} {w w' : World} {x : Rh} {l : Trs} (h : RowOf T w x l) (hb : ∀ b, T b → w'.heap[b]? = w.heap[b]?) : RowOf T w' x l := ⟨h.arr.keep hb, h.nil, h.le, h.max⟩
theorem RowOf.more {T T' : Nat → Prop} {w : World} {x : Rh} {l : Trs} (h : RowOf T w x l) (hb : ∀ b, T b → T' b) : RowOf T' w x l := ⟨h.arr.mono hb, h.nil, h.le, h.max⟩
section
variable {B : Nat} {w w2 : World} {g gs go n : Nat} {pa rg : Int} {gn : Bool} {a3 : Option Addr} {nA c3 : Nat} {a4 : Option Addr} {c4 : Nat} {s : WSt} {T : Nat → Prop} {vT vT' : Value} {hs : List Rh}
theorem Wk.more {T' : Nat → Prop} (h : Wk B w g gs go n pa rg gn a3 nA c3 a4 c4 s T vT hs) (hs' : ∀ b, T b → T' b) (ht : ∀ b, T' b → b < w.heap.size ∧ b ≠ g ∧ b ≠ gs ∧ b ≠ go ∧ vT.ownBlock ≠ some b) : Wk B w g gs go n pa rg gn a3 nA c3 a4 c4 s T' vT hs :=
  ⟨h.box, h.seen, h.out, h.hl, fun j x l h1 h2 => ⟨(h.rows j x l h1 h2).1.mono hs', (h.rows j x l h1 h2).2⟩, h.todo, h.bg, h.bs, h.bo, h.gsn, h.gon, h.son, h.tg, h.ts, h.to, ht, h.ls, h.lo⟩
/-- Blocks that are new are none of the walk's. -/
theorem Wk.fresh {T' : Nat → Prop} (h : Wk B w g gs go n pa rg gn a3 nA c3 a4 c4 s T vT hs) (hb : RowKit.Below w.heap.size w w2) (ht : ∀ b, T' b → T b ∨ (w.heap.size ≤ b ∧ b < w2.heap.size)) (hs' : ∀ b, T b → T' b) : Wk B w2 g gs go n pa rg gn a3 nA c3 a4 c4 s T' vT hs := by
  refine (h.keep hb).more hs' fun b hb' => ?_
  rcases ht b hb' with h1 | ⟨h1, h2⟩
  · have := h.tt b h1
    exact ⟨Nat.lt_of_lt_of_le this.1 hb.size, this.2⟩
  · have k1 := h.box.lt; have k2 := h.seen.lt; have k3 := h.out.lt
    exact ⟨h2, by omega, by omega, by omega, fun e => by have := (h.todo.lt b e).2; omega⟩
abbrev insL (i : Api.Ins) : List Value := [.int .i64 i.Op, .int .i64 i.A, .int .i64 i.B, .int .i64 i.C, .int .i64 i.Line]
def FromPost (B : Nat) (w : World) (g gs go n : Nat) (pa rg : Int) (gn : Bool) (a3 : Option Addr) (nA c3 : Nat) (a4 : Option Addr) (c4 : Nat) (s : WSt) (T : Nat → Prop) (e : Ending) (w' : World) : Prop :=
  e = .returned (.tuple #[]) ∧ ∃ vT hs T', (∀ b, T b → T' b) ∧ Wk B w' g gs go n pa rg gn a3 nA c3 a4 c4 s T' vT hs ∧ RowKit.Below B w w'
set_option maxRecDepth 100000 in
set_option maxHeartbeats 1000000 in
theorem from_any {C : Nat → Prop} (h : Wk B w g gs go n pa rg gn a3 nA c3 a4 c4 s T vT hs) {code : List Api.Ins} (hc : Arr C w a4 code) (hC : ∀ b, C b → b < B) (hcl : code.length = n) (hI : Inv n s) (hA : Aims code) {k : Nat} (hk : k < n) (hn : n ≤ 1000) :
    Calls Tryd.prog 119 #[.pointer (some ⟨g, 0, none⟩), .int .i64 k] w (FromPost B w g gs go n pa rg gn a3 nA c3 a4 c4 (from' code s k) T) := by
  obtain ⟨i, hi⟩ : ∃ i, code[k]? = some i := ⟨_, List.getElem?_eq_getElem (by omega)⟩
  obtain ⟨l, hl⟩ : ∃ l, s.out[k]? = some l := ⟨_, List.getElem?_eq_getElem (by rw [h.lo]; exact hk)⟩
  obtain ⟨x, hx⟩ : ∃ x, hs[k]? = some x := ⟨_, List.getElem?_eq_getElem (by rw [h.hl, h.lo]; exact hk)⟩
  obtain ⟨m, hm⟩ : ∃ m, m = l.length := ⟨_, rfl⟩
  have hm20 : m ≤ 20 := by rw [hm]; exact hI.row hl
  have q4 := h.box.cell (j := 4) rfl; have q6 := h.box.cell (j := 6) rfl
  have e2 : w.cell? ⟨go, k, none⟩ = some (.slice x.1 m x.2) := by rw [hm]; exact h.out.cell (rowsV_at hx hl)
  have hrow : RowOf T w x l := by obtain ⟨r1, r2, r3, r4⟩ := h.rows k x l hx hl; exact ⟨r1, r2, r3, r4⟩
  obtain ⟨bc, oc, rfl, hSb, y0, y1, y2, y3, y4, i0, i1, i2, i3, i4⟩ := api_Ins_elem hc hi
  have hlg := h.box.lt; have hlo := h.out.lt
  have hlb : bc < w.heap.size := by have := hC bc hSb; have := h.bg; omega
  have d3 : (k : Int) < (n : Int) := by omega
  have HS : Hid (∀ w', RowKit.Below w.heap.size w w' → w'.cell? ⟨g, 4, none⟩ = some (.slice (some ⟨bc, oc, none⟩) n c4) ∧ w'.cell? ⟨g, 6, none⟩ = some (.slice (some ⟨go, 0, none⟩) n n) ∧ w'.cell? ⟨go, k, none⟩ = some (.slice x.1 m x.2) ∧ w'.cell? ⟨bc, oc + k * 5, none⟩ = some (.int .i64 i.Op) ∧ w'.cell? ⟨bc, oc + k * 5 + 1, none⟩ = some (.int .i64 i.A) ∧ w'.cell? ⟨bc, oc + k * 5 + 2, none⟩ = some (.int .i64 i.B) ∧ w'.cell? ⟨bc, oc + k * 5 + 3, none⟩ = some (.int .i64 i.C) ∧ w'.cell? ⟨bc, oc + k * 5 + 4, none⟩ = some (.int .i64 i.Line)) := fun w' hb => by
    have hg := fun o => World.cell?_of_block (a := ⟨g, o, none⟩) (hb.block g hlg)
    have ho := fun o => World.cell?_of_block (a := ⟨go, o, none⟩) (hb.block go hlo)
    have hc := fun o => World.cell?_of_block (a := ⟨bc, o, none⟩) (hb.block bc hlb)
    exact ⟨(hg _).trans q4, (hg _).trans q6, (ho _).trans e2, (hc _).trans y0, (hc _).trans y1, (hc _).trans y2, (hc _).trans y3, (hc _).trans y4⟩
  have H := Lib.hid h
  have HF : Hid (from' code s k = if i.Op = 28 ∨ i.Op = 29 then s
    else if i.Op = 13 ∨ i.Op = 14 then come n s i.A l
    else if i.Op = 15 then come n (come n s i.B l) (k + 1) l
    else if i.Op = 30 then come n (come n s i.B l) (k + 1) (l ++ [⟨i.A, i.B⟩])
    else if i.Op = 31 then if l = [] then { s with bad := true } else come n s (k + 1) l.dropLast
    else come n s (k + 1) l) := by
    show _ = _
    unfold from'
    rw [hi]
    simp only [hl, hcl, Option.getD_some]
  have HW0 : Hid (∀ W, W = (w.alloc (.cells #[.int .i64 i.Op, .int .i64 i.A, .int .i64 i.B, .int .i64 i.C, .int .i64 i.Line] 169)).drew →
      Wk B W g gs go n pa rg gn a3 nA c3 (some ⟨bc, oc, none⟩) c4 s (fun b => T b ∨ b = w.heap.size) vT hs ∧ RowKit.Below w.heap.size w W ∧ Blk W w.heap.size 169 (insL i) ∧ RowOf (fun b => T b ∨ b = w.heap.size) W x l) := fun W hW => by
    subst hW
    have hb : RowKit.Below w.heap.size w (w.alloc (.cells #[.int .i64 i.Op, .int .i64 i.A, .int .i64 i.B, .int .i64 i.C, .int .i64 i.Line] 169)).drew := (belowN (RowKit.Below.refl _ _) _).drew
    refine ⟨h.fresh hb (fun b hb => ?_) (fun b hb => .inl hb), hb, blk_new w (insL i) 169, (hrow.keep fun b hb' => hb.block b (h.tt b hb').1).more fun b hb => .inl hb⟩
    rcases hb with hb | rfl
    · exact .inl hb
    · refine .inr ⟨Nat.le_refl _, ?_⟩
      show _ < (World.alloc _ _).heap.size
      simp
  have HAI := Lib.hid (hA k i hi)
  have HI := Lib.hid hI
  have HM := Lib.hid hm.symm
  clear h hc hA hi hl hx hI hcl hrow
  go_enter Tryd.func119, Tryd.ntmps119
  go_upto_region 0 with fail
  have HCM : Hid (∀ (W : World) (s' : WSt) (T' : Nat → Prop) (vT' : Value) (hs' : List Rh), Wk B W g gs go n pa rg gn a3 nA c3 (some ⟨bc, oc, none⟩) c4 s' T' vT' hs' → Inv n s' → ∀ (at' : Int) (x : Rh) (l : Trs) (m : Nat), RowOf T' W x l → l.length = m → 0 ≤ at' → m ≤ 1000 →
      Calls Tryd.prog 118 #[.pointer (some ⟨g, 0, none⟩), .int .i64 at', .slice x.1 m x.2] W (ComePost B W g gs go n pa rg gn a3 nA c3 (some ⟨bc, oc, none⟩) c4 (come n s' at' l) T')) := fun W s' T' vT' hs' h1 h2 at' x l m h3 h4 h5 h6 => come_any h1 h3 h4 h5 hn (Nat.le_trans h2.todo hn) h6
  clear hm
  go_region_held3 (fun w' => w'.cell? ⟨g, 4, none⟩ = some (.slice (some ⟨bc, oc, none⟩) n c4) ∧ w'.cell? ⟨g, 6, none⟩ = some (.slice (some ⟨go, 0, none⟩) n n) ∧ w'.cell? ⟨go, k, none⟩ = some (.slice x.1 m x.2) ∧ w'.cell? ⟨bc, oc + k * 5, none⟩ = some (.int .i64 i.Op) ∧ w'.cell? ⟨bc, oc + k * 5 + 1, none⟩ = some (.int .i64 i.A) ∧ w'.cell? ⟨bc, oc + k * 5 + 2, none⟩ = some (.int .i64 i.B) ∧ w'.cell? ⟨bc, oc + k * 5 + 3, none⟩ = some (.int .i64 i.C) ∧ w'.cell? ⟨bc, oc + k * 5 + 4, none⟩ = some (.int .i64 i.Line))
    (first
      | exact ⟨q4, q6, e2, y0, y1, y2, y3, y4⟩
      | exact HS.out _ (by repeat (first | exact RowKit.Below.refl _ _ | refine belowN ?_ _ | refine belowS ?_ (by simp) _ | refine RowKit.Below.drew ?_)))
    (fail)
  generalize hW : World.drew _ = W0
  obtain ⟨hwk, hbw, hbk, hrw⟩ := HW0.out W0 hW.symm
  have z0 := hbk.cell (j := 0) rfl; have z1 := hbk.cell (j := 1) rfl; have z2 := hbk.cell (j := 2) rfl
  have hzl := hbk.lt
  have HWK := Lib.hid hwk; have HBW := Lib.hid hbw; have HBK := Lib.hid hbk; have HRW := Lib.hid hrw
  have HBB : Hid (RowKit.Below B w W0) := hbw.mono (Nat.le_trans HWK.out.bg (Nat.le_of_lt hlg))
  clear hW hwk hbw hbk hrw HW0 HS q4 q6 e2 y0 y1 y2 y3 y4
  have HTS : Hid (∀ b, T b → (T b ∨ b = w.heap.size)) := fun b hb => .inl hb
  by_cases o1 : i.Op = 28 ∨ i.Op = 29
  · rw [if_pos o1] at HF
    rcases (show i.Op = 28 ∨ (¬ i.Op = 28 ∧ i.Op = 29) by omega) with o2 | ⟨o2, o3⟩
    all_goals
      go_wp2_with fail
      refine bodyPost_end (results_none rfl _ _ _) rfl ⟨rfl, vT, hs, _, HTS.out, (by rw [HF.out]; exact HWK.out), HBB.out⟩
  rw [if_neg o1] at HF
  have n28 : (i.Op == 28) = false := by simp; omega
  have n29 : (i.Op == 29) = false := by simp; omega
  clear o1
  by_cases o1 : i.Op = 13 ∨ i.Op = 14
  · rw [if_pos o1] at HF
    have HA0 := Lib.hid (HAI.out.1 o1)
    rcases (show i.Op = 13 ∨ (¬ i.Op = 13 ∧ i.Op = 14) by omega) with o2 | ⟨o2, o3⟩
    all_goals
      go_wp2_with (go_at_call 118; refine (HCM.out _ _ _ _ _ HWK.out HI.out _ _ _ _ HRW.out HM.out HA0.out (by omega)).mono ?_; rintro e w1 ⟨rfl, vT1, hs1, hwk1, hbw1, htw1⟩; have HWK1 := Lib.hid hwk1; have HBW1 := Lib.hid hbw1; clear hwk1 hbw1 htw1)
      refine bodyPost_end (results_none rfl _ _ _) rfl ⟨rfl, vT1, hs1, _, HTS.out, (by rw [HF.out]; exact HWK1.out), HBB.out.trans HBW1.out⟩
  rw [if_neg o1] at HF
  have n13 : (i.Op == 13) = false := by simp; omega
  have n14 : (i.Op == 14) = false := by simp; omega
  clear o1
  have wk : IntKind.i64.wrap ((k : Int) + 1) = (k : Int) + 1 := by rw [IntKind.wrap_i64]; omega
  by_cases o15 : i.Op = 15
  · rw [if_pos o15] at HF
    have HA0 := Lib.hid (HAI.out.2 (.inl o15))
    have HI1 : Hid (Inv n (come n s i.B l)) := HI.out.come l HA0.out
    go_wp2_with (first
      | (go_at_call 118; refine (HCM.out _ _ _ _ _ HWK1.out HI1.out _ _ _ _ HRW1.out HM.out (by omega) (by omega)).mono ?_; rintro e w2 ⟨rfl, vT2, hs2, hwk2, hbw2, htw2⟩; have HWK2 := Lib.hid hwk2; have HBW2 := Lib.hid hbw2; clear hwk2 hbw2 htw2)
      | (go_at_call 118; refine (HCM.out _ _ _ _ _ HWK.out HI.out _ _ _ _ HRW.out HM.out HA0.out (by omega)).mono ?_; rintro e w1 ⟨rfl, vT1, hs1, hwk1, hbw1, htw1⟩; have HWK1 := Lib.hid hwk1; have HBW1 := Lib.hid hbw1; have HRW1 := Lib.hid (HRW.out.keep htw1); clear hwk1 hbw1 htw1))
    refine bodyPost_end (results_none rfl _ _ _) rfl ⟨rfl, vT2, hs2, _, HTS.out, (by rw [HF.out]; exact HWK2.out), (HBB.out.trans HBW1.out).trans HBW2.out⟩
  rw [if_neg o15] at HF
  have n15 : (i.Op == 15) = false := by simp; omega
  clear o15
  by_cases o30 : i.Op = 30
  · rw [if_pos o30] at HF
    have HA0 := Lib.hid (HAI.out.2 (.inr o30))
    have HI1 : Hid (Inv n (come n s i.B l)) := HI.out.come l HA0.out
    have hzo : w.heap.size = w.heap.size := rfl
    go_upto_region 11 with (go_at_call 118; refine (HCM.out _ _ _ _ _ HWK.out HI.out _ _ _ _ HRW.out HM.out HA0.out (by omega)).mono ?_; rintro e w1 ⟨rfl, vT1, hs1, hwk1, hbw1, htw1⟩; have HWK1 := Lib.hid hwk1; have HBW1 := Lib.hid hbw1; have HRW1 := Lib.hid (HRW.out.keep htw1); have HBK1 := Lib.hid (HBK.out.keep (htw1 _ (.inr rfl))); clear hwk1 hbw1 htw1)
    have q1 := HBK1.out.cell (j := 1) rfl; have q2 := HBK1.out.cell (j := 2) rfl
    have hgb1 : w.heap.size < w1.heap.size := HBK1.out.lt
    have HARN : Hid (∀ W : World, Arr (fun b => b = W.heap.size) (W.alloc (.cells #[.int .i64 i.A, .int .i64 i.B] 219)) (some ⟨W.heap.size, 0, none⟩) [(⟨i.A, i.B⟩ : Api.Try)]) := fun W => arr_try i1 i2
    have HCB : Hid (∀ W', RowKit.Below w1.heap.size w1 W' → Calls Tryd.prog 136 #[.slice x.1 m x.2] W' (RetOwn 219 W' l)) := fun W' hb =>
      cloneT_any HM.out (HRW1.out.arr.keep fun b hb' => hb.block b (HWK1.out.tt b hb').1) HRW1.out.nil (fun b hb' => Nat.lt_of_lt_of_le (HWK1.out.tt b hb').1 hb.size) (by omega)
    have HCL : Hid (Calls Tryd.prog 136 #[.slice x.1 m x.2] w1.drew fun e w2 => ∃ v2, e = .returned v2 ∧ Go.Bk.Own (fun _ => False) w2 w1.heap.size 219 v2 l ∧ RowKit.Below w1.heap.size w1 w2 ∧ w2.cell? ⟨w.heap.size, 1, none⟩ = some (.int .i64 i.A) ∧ w2.cell? ⟨w.heap.size, 2, none⟩ = some (.int .i64 i.B)) := by
      refine (HCB.out w1.drew (RowKit.Below.refl _ _).drew).mono ?_
      rintro e w2 ⟨v2, rfl, h1, h2⟩
      exact ⟨v2, rfl, h1, (RowKit.Below.refl _ _).drew.trans h2, (World.cell?_of_block (a := ⟨w.heap.size, 1, none⟩) (h2.block _ hgb1)).trans q1, (World.cell?_of_block (a := ⟨w.heap.size, 2, none⟩) (h2.block _ hgb1)).trans q2⟩
    have HCA : Hid (Calls Tryd.prog 136 #[.slice x.1 m x.2] (w1.drew.alloc (.cells #[.int .i64 i.A, .int .i64 i.B] 219)) fun e w2 => ∃ v2, e = .returned v2 ∧ Go.Bk.Own (fun _ => False) w2 w1.heap.size 219 v2 l ∧ RowKit.Below w1.heap.size w1 w2 ∧ Arr (fun b => b = w1.heap.size) w2 (some ⟨w1.heap.size, 0, none⟩) [(⟨i.A, i.B⟩ : Api.Try)]) := by
      have hb1 : RowKit.Below w1.heap.size w1 (w1.drew.alloc (.cells #[.int .i64 i.A, .int .i64 i.B] 219)) := belowN (RowKit.Below.refl _ _).drew _
      refine (HCB.out _ hb1).mono ?_
      rintro e w2 ⟨v2, rfl, h1, h2⟩
      have hz : (w1.drew.alloc (.cells #[.int .i64 i.A, .int .i64 i.B] 219)).heap.size = w1.heap.size + 1 := by show _ = w1.drew.heap.size + 1; simp
      refine ⟨v2, rfl, own_wider h1 (by omega), hb1.trans (h2.mono (by omega)), (HARN.out w1.drew).keep fun b hb => ?_⟩
      subst hb
      exact h2.block _ (by omega)
    have HEND : Hid (∀ (Wx w5 : World) (v2 v5 : Value), RowKit.Below w1.heap.size w1 Wx → Go.Bk.Own (fun _ => False) Wx w1.heap.size 219 v2 l → Wx.grownBy w5 v2.ownBlock → Go.Bk.Own (fun _ => False) w5 w1.heap.size 219 v5 (l ++ [⟨i.A, i.B⟩]) →
        ∃ (y : Rh) (T2 : Nat → Prop), v5 = .slice y.1 (m + 1) y.2 ∧ (∀ b, T b → T2 b) ∧ Wk B w5 g gs go n pa rg gn a3 nA c3 (some ⟨bc, oc, none⟩) c4 (come n s i.B l) T2 vT1 hs1 ∧ RowOf T2 w5 y (l ++ [⟨i.A, i.B⟩]) ∧ RowKit.Below B w w5) := fun Wx w5 v2 v5 h1 h2 h3 h4 => by
      have hb : RowKit.Below w1.heap.size w1 w5 := h1.grown h3 h1.size fun r hr => (h2.lt r hr).1
      obtain ⟨a5, c5, rfl, k1, k2, k3, k4⟩ := h4.arrC
      have hl : (l ++ [(⟨i.A, i.B⟩ : Api.Try)]).length = m + 1 := by rw [List.length_append, HM.out]; rfl
      rw [hl] at k1 ⊢
      refine ⟨(a5, c5), fun b => (T b ∨ b = w.heap.size) ∨ (w1.heap.size ≤ b ∧ b < w5.heap.size), rfl, fun b hb => .inl (.inl hb), HWK1.out.fresh hb (fun b hb => hb) (fun b hb => .inl hb), ⟨k4.mono fun b hb => .inr (by rcases hb with hb | hb; exact hb.elim; exact hb), k2, by rw [hl]; exact k1, k3⟩, ?_⟩
      exact (HBB.out.trans HBW1.out).trans (hb.mono (Nat.le_trans HWK1.out.bg (Nat.le_of_lt HWK1.out.box.lt)))
    have HE33 : Hid (∀ args w, (callFunc 136 args).run Tryd.prog w = .ok (.enter 136 args) w) := Tryd.call136
    refine wp_region_noPanic ?_
    go_region_law (first
        | (refine step_call (f := 136) (vs := #[.slice x.1 m x.2]) rfl rfl (by simp [Act.eval, Act.put]) HE33.out HCL.out fun e w2 hp => ?_
           obtain ⟨v2, rfl, ho, hb, t1, t2⟩ := hp
           refine ⟨_, rfl, ?_⟩
           have HB2 := Lib.hid hb
           have HO2 := Lib.hid ho
           clear hb ho)
        | (refine step_call (f := 136) (vs := #[.slice x.1 m x.2]) rfl rfl (by simp [Act.eval, Act.put]) HE33.out HCA.out fun e w2 hp => ?_
           obtain ⟨v2, rfl, ho, hb, har⟩ := hp
           refine ⟨_, rfl, ?_⟩
           have HB2 := Lib.hid hb
           have HO2 := Lib.hid ho
           have HAR := Lib.hid har
           clear hb ho har)
        | (refine step_of_list rfl fun Q' hQ => ?_
           refine Tryd.wp_apps216 rfl rfl rfl rfl rfl HO2.out HAR.out Tryd.flat216 (fun h => by cases h) (fun _ h => h.elim) (by rw [HM.out]; omega) HB2.out.size fun v5 w5 ho5 hg5 => ?_
           have HEN := Lib.hid (HEND.out _ _ _ _ HB2.out HO2.out hg5 ho5)
           refine (hQ _ _).2 ?_
           clear hQ Q' ho5 hg5)
        | (refine step_of_list rfl fun Q' hQ => ?_
           refine Tryd.wp_apps216 rfl rfl rfl rfl rfl (HO2.out.alloc _ (fun _ h => h.elim)) (HARN.out w2) Tryd.flat216 (fun h => by cases h) (fun _ h => h.elim) (by rw [HM.out]; omega) (belowN HB2.out _).size fun v5 w5 ho5 hg5 => ?_
           have HEN := Lib.hid (HEND.out _ _ _ _ (belowN HB2.out _) (HO2.out.alloc _ (fun _ h => h.elim)) hg5 ho5)
           refine (hQ _ _).2 ?_
           clear hQ Q' ho5 hg5))
    all_goals refine NoPanic.normal ?_
    all_goals
      obtain ⟨y, T2, rfl, ht2, hwk5, hrw5, hb5⟩ := HEN.out
      have HWK5 := Lib.hid hwk5; have HRW5 := Lib.hid hrw5; have HB5 := Lib.hid hb5; have HT2 := Lib.hid ht2
      have HM5 : Hid ((l ++ [(⟨i.A, i.B⟩ : Api.Try)]).length = m + 1) := by show _ = _; rw [List.length_append, HM.out]; rfl
      clear HEN hwk5 hrw5 hb5 ht2 HEND
      go_wp2_with (go_at_call 118; refine (HCM.out _ _ _ _ _ HWK5.out HI1.out _ _ _ _ HRW5.out HM5.out (by omega) (by omega)).mono ?_; rintro e w6 ⟨rfl, vT6, hs6, hwk6, hbw6, htw6⟩; have HWK6 := Lib.hid hwk6; have HBW6 := Lib.hid hbw6; clear hwk6 hbw6 htw6)
      refine bodyPost_end (results_none rfl _ _ _) rfl ⟨rfl, vT6, hs6, _, HT2.out, (by rw [HF.out]; exact HWK6.out), HB5.out.trans HBW6.out⟩
  rw [if_neg o30] at HF
  have n30 : (i.Op == 30) = false := by simp; omega
  clear o30
  by_cases o31 : i.Op = 31
  · rw [if_pos o31] at HF
    by_cases hz : l = []
    · rw [if_pos hz] at HF
      have hm0 : m = 0 := by rw [← HM.out, hz]; rfl
      subst hm0
      have f8 := HWK.out.box.frozen 8
      have p8 := HWK.out.box.cell (j := 8) rfl
      have hlgw := HWK.out.box.lt
      clear hz
      go_wp2_with fail
      refine bodyPost_end (results_none rfl _ _ _) rfl ⟨rfl, vT, hs, _, HTS.out, (by rw [HF.out]; exact HWK.out.setBad), below_st HBB.out HWK.out.bg⟩
    · rw [if_neg hz] at HF
      have hm0 : 0 < m := by rw [← HM.out]; exact List.length_pos_iff.2 hz
      have d0 : ((m : Int) == 0) = false := by simp; omega
      have wm : IntKind.i64.wrap ((m : Int) - 1) = ((m - 1 : Nat) : Int) := by rw [IntKind.wrap_i64]; omega
      have hsl : ∀ w' : World, (Instr.slice 216 (.slice x.1 m x.2) none (some (.int .i64 ((m - 1 : Nat) : Int))) none).run Tryd.prog w' = .ok (.slice x.1 (m - 1) x.2) w' := fun w' =>
        run_slice_head (z := 2) Tryd.underlying216 (by kernel_rfl) _ m x.2 (m - 1) (by have := HRW.out.le; have := HM.out; omega) w'
      have HRD : Hid (RowOf (fun b => T b ∨ b = w.heap.size) W0 x l.dropLast) := ⟨by rw [List.dropLast_eq_take]; exact HRW.out.arr.take _, HRW.out.nil, by have := HRW.out.le; rw [List.length_dropLast]; omega, HRW.out.max⟩
      have HMD : Hid (l.dropLast.length = m - 1) := by show _ = _; rw [List.length_dropLast, HM.out]
      clear hz
      go_wp2_with (go_at_call 118; refine (HCM.out _ _ _ _ _ HWK.out HI.out _ _ _ _ HRD.out HMD.out (by omega) (by omega)).mono ?_; rintro e w1 ⟨rfl, vT1, hs1, hwk1, hbw1, htw1⟩; have HWK1 := Lib.hid hwk1; have HBW1 := Lib.hid hbw1; clear hwk1 hbw1 htw1)
      refine bodyPost_end (results_none rfl _ _ _) rfl ⟨rfl, vT1, hs1, _, HTS.out, (by rw [HF.out]; exact HWK1.out), HBB.out.trans HBW1.out⟩
  rw [if_neg o31] at HF
  have n31 : (i.Op == 31) = false := by simp; omega
  clear o31
  go_wp2_with (go_at_call 118; refine (HCM.out _ _ _ _ _ HWK.out HI.out _ _ _ _ HRW.out HM.out (by omega) (by omega)).mono ?_; rintro e w1 ⟨rfl, vT1, hs1, hwk1, hbw1, htw1⟩; have HWK1 := Lib.hid hwk1; have HBW1 := Lib.hid hbw1; clear hwk1 hbw1 htw1)
  refine bodyPost_end (results_none rfl _ _ _) rfl ⟨rfl, vT1, hs1, _, HTS.out, (by rw [HF.out]; exact HWK1.out), HBB.out.trans HBW1.out⟩
end
end Go.Proofs.YtjlnaiiajlahgaaDoor.cod
