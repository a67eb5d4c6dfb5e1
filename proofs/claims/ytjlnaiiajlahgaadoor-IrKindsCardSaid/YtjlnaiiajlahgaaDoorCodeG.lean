/- code.Check: function: walked. -/
import Derived.Test.YtjlnaiiajlahgaaDoorCodeF
set_option linter.unusedVariables false
set_option linter.unusedSimpArgs false
namespace Go.Proofs.YtjlnaiiajlahgaaDoor.cod
open Go.Bk Go.RowKit Go.Proofs.YtjlnaiiajlahgaaDoor.funs

theorem all_idx {α : Type} {l : List α} {g : α × Nat → Bool} : l.zipIdx.all g = true ↔ ∀ (j : Nat) x, l[j]? = some x → g (x, j) = true := by
  rw [List.all_eq_true]
  constructor
  · intro h j x hx
    exact h (x, j) (List.mem_zipIdx_iff_getElem?.2 hx)
  · rintro h ⟨x, j⟩ hm
    exact h j x (List.mem_zipIdx_iff_getElem?.1 hm)
theorem all_idx_not {α : Type} {l : List α} {g : α × Nat → Bool} {j : Nat} {x : α} (hx : l[j]? = some x) (h : g (x, j) = false) : l.zipIdx.all g = false := by
  rw [Bool.eq_false_iff]
  intro h2
  rw [all_idx.1 h2 j x hx] at h
  cases h
theorem aims_of {p : Api.Prog} {f : Api.Fn} (h : ∀ (j : Nat) i, f.Code[j]? = some i → ordr p f j i = true) : Aims f.Code := by
  intro a i hi
  have h1 := h a i hi
  unfold ordr at h1
  refine ⟨fun hc => ?_, fun hc => ?_⟩
  · have hf : frm i.Op = some (97, 45, 45) := by rcases hc with hc | hc <;> rw [hc] <;> rfl
    rw [hf] at h1
    simp only [Bool.and_eq_true] at h1
    have := h1.2.1
    simp only [nam, show ((97 : UInt8) = 114) = False by decide, show ((97 : UInt8) = 107) = False by decide, show ((97 : UInt8) = 116) = False by decide, if_false, if_true] at this
    exact (within_iff.1 this).1
  · have hf : frm i.Op = some (114, 97, 45) := by rcases hc with hc | hc <;> rw [hc] <;> rfl
    rw [hf] at h1
    simp only [Bool.and_eq_true] at h1
    have := h1.2.2.1
    simp only [nam, show ((97 : UInt8) = 114) = False by decide, show ((97 : UInt8) = 107) = False by decide, show ((97 : UInt8) = 116) = False by decide, if_false, if_true] at this
    exact (within_iff.1 this).1
/-- A program, as the walks have it. -/
structure PgAt (S : Nat → Prop) (w : World) (a0 a1 a2 : Option Addr) (nF nC nT : Nat) (p : Api.Prog) : Prop where
  fns : Arr S w a0 p.Fns
  consts : Arr S w a1 p.Consts
  texts : Arr S w a2 p.Texts
  lenF : nF = p.Fns.length
  lenC : nC = p.Consts.length
  lenT : nT = p.Texts.length
  nilT : a2 = none → nT = 0
theorem PgAt.keep {S : Nat → Prop} {w w' : World} {a0 a1 a2 : Option Addr} {nF nC nT : Nat} {p : Api.Prog} (h : PgAt S w a0 a1 a2 nF nC nT p) (hb : ∀ b, S b → w'.heap[b]? = w.heap[b]?) : PgAt S w' a0 a1 a2 nF nC nT p :=
  ⟨h.fns.keep hb, h.consts.keep hb, h.texts.keep hb, h.lenF, h.lenC, h.lenT, h.nilT⟩
def OkTo (p : Api.Prog) (f : Api.Fn) (k : Nat) : Prop := ∀ (j : Nat) i, j < k → f.Code[j]? = some i → ordr p f j i = true
theorem OkTo.succ {p : Api.Prog} {f : Api.Fn} {k : Nat} (h : OkTo p f k) {i : Api.Ins} (hi : f.Code[k]? = some i) (ho : ordr p f k i = true) : OkTo p f (k + 1) := fun j x hj hx => by
  by_cases e : j = k
  · subst e; rw [hi] at hx; exact Option.some.inj hx ▸ ho
  · exact h j x (by omega) hx
section
variable {a0 a1 a2 a3 a4 : Option Addr} {nF c0 nC c1 nT c2 nA c3 nO c4 : Nat} {pa rg : Int} {gn : Bool}
abbrev pgV (a0 a1 a2 : Option Addr) (nF c0 nC c1 nT c2 : Nat) : Value := .agg #[.slice a0 nF c0, .slice a1 nC c1, .slice a2 nT c2]
abbrev fnV (a3 a4 : Option Addr) (nA c3 nO c4 : Nat) (pa rg : Int) (gn : Bool) : Value := .agg #[.int .i64 pa, .int .i64 rg, .bool gn, .slice a3 nA c3, .slice a4 nO c4]
set_option maxRecDepth 100000 in
set_option maxHeartbeats 1000000 in
theorem function_any {S : Nat → Prop} {w : World} {p : Api.Prog} {f : Api.Fn} (h : PgAt S w a0 a1 a2 nF nC nT p) (hA : Arr S w a3 f.Caught) (hC : Arr S w a4 f.Code) (hS : ∀ b, S b → b < w.heap.size) (eA : nA = f.Caught.length) (eO : nO = f.Code.length) (eP : pa = f.Params) (eR : rg = f.Regs) (eG : gn = f.Gen)
    (bF : nF ≤ 1000) (bC : nC ≤ 1000) (bT : nT ≤ 1000) (bO : nO ≤ 1000) (bR : rg ≤ 1000) :
    Calls Tryd.prog 58 #[pgV a0 a1 a2 nF c0 nC c1 nT c2, fnV a3 a4 nA c3 nO c4 pa rg gn] w fun e w' => e = .returned (.bool (funcOk p f)) ∧ RowKit.Below w.heap.size w w' := by
  obtain ⟨w3, hw3⟩ : ∃ w3, w3 = ((w.alloc (.cells #[.slice a0 nF c0, .slice a1 nC c1, .slice a2 nT c2] 52)).alloc (.cells #[.int .i64 pa, .int .i64 rg, .bool gn, .slice a3 nA c3, .slice a4 nO c4] 128)).alloc (.cells #[.slice a0 nF c0, .slice a1 nC c1, .slice a2 nT c2, .int .i64 pa, .int .i64 rg, .bool gn, .slice a3 nA c3, .slice a4 nO c4] 167) := ⟨_, rfl⟩
  have H3 : Hid (Blk w3 (w.heap.size + 1) 128 [.int .i64 pa, .int .i64 rg, .bool gn, .slice a3 nA c3, .slice a4 nO c4] ∧ Blk w3 (w.heap.size + 1 + 1) 167 (lkC a0 a1 a2 a3 a4 nF c0 nC c1 nT c2 nA c3 nO c4 pa rg gn) ∧ RowKit.Below w.heap.size w w3) := by
    have k := three w #[.slice a0 nF c0, .slice a1 nC c1, .slice a2 nT c2] #[.int .i64 pa, .int .i64 rg, .bool gn, .slice a3 nA c3, .slice a4 nO c4] #[.slice a0 nF c0, .slice a1 nC c1, .slice a2 nT c2, .int .i64 pa, .int .i64 rg, .bool gn, .slice a3 nA c3, .slice a4 nO c4] 52 128 167 _ rfl
    rw [← hw3] at k
    exact ⟨k.2.1, k.2.2.1, k.2.2.2.os, k.2.2.2.tape, k.2.2.2.output, k.2.2.2.size, k.2.2.2.block⟩
  have HH := Lib.hid h; have HA := Lib.hid hA; have HC := Lib.hid hC; have HS := Lib.hid hS
  have HE : Hid (nA = f.Caught.length ∧ nO = f.Code.length ∧ pa = f.Params ∧ rg = f.Regs ∧ gn = f.Gen) := ⟨eA, eO, eP, eR, eG⟩
  have HFO : Hid (funcOk p f = if pa < 0 ∨ rg < 1 ∨ rg < pa then false else if (f.Code.zipIdx.all fun x => ordr p f x.2 x.1) = false then false else !(triesOf f.Code).bad) := by
    show _ = _
    unfold funcOk
    rw [eP, eR]
  clear h hA hC hS eA eO eP eR eG
  go_enter Tryd.func58, Tryd.ntmps58
  go_upto_region 2 with fail
  rw [← hw3]
  clear hw3
  have hl2 := H3.out.2.1.lt
  have hl1 : w.heap.size + 1 < w3.heap.size := by omega
  have HCE : Hid (∀ W, RowKit.Below w3.heap.size w3 W → Blk W (w.heap.size + 1) 128 [.int .i64 pa, .int .i64 rg, .bool gn, .slice a3 nA c3, .slice a4 nO c4] ∧ Blk W (w.heap.size + 1 + 1) 167 (lkC a0 a1 a2 a3 a4 nF c0 nC c1 nT c2 nA c3 nO c4 pa rg gn)) := fun W hb => ⟨H3.out.1.keep (hb.block _ hl1), H3.out.2.1.keep (hb.block _ hl2)⟩
  have k1 := H3.out.1
  have p0 := k1.cell (j := 0) rfl; have p1 := k1.cell (j := 1) rfl; have p4 := k1.cell (j := 4) rfl
  clear k1
  by_cases hbad : pa < 0 ∨ rg < 1 ∨ rg < pa
  · have HFO : Hid (funcOk p f = false) := by show _ = _; rw [HFO.out, if_pos hbad]
    rcases (show pa < 0 ∨ (¬ pa < 0 ∧ rg < 1) ∨ (¬ pa < 0 ∧ ¬ rg < 1 ∧ rg < pa) by omega) with d | ⟨d, d1⟩ | ⟨d, d1, d2⟩
    all_goals
      clear hbad
      go_wp2_with fail
      go_ret
      exact ⟨by rw [HFO.out]; rfl, H3.out.2.2⟩
  have d1 : ¬ pa < 0 := by omega
  have d2 : ¬ rg < 1 := by omega
  have d3 : ¬ rg < pa := by omega
  have HFO : Hid (funcOk p f = if (f.Code.zipIdx.all fun x => ordr p f x.2 x.1) = false then false else !(triesOf f.Code).bad) := by show _ = _; rw [HFO.out, if_neg hbad]
  clear hbad
  have HLK : Hid (∀ W, RowKit.Below w3.heap.size w3 W → LkAt S W a0 a3 a4 nF nC nT nA nO rg gn p f ∧ (∀ b, S b → b < W.heap.size) ∧ RowKit.Below w.heap.size w W) := fun W hb => by
    have hbw : RowKit.Below w.heap.size w W := H3.out.2.2.trans (hb.mono H3.out.2.2.size)
    have hk : ∀ b, S b → W.heap[b]? = w.heap[b]? := fun b hb' => hbw.block b (HS.out b hb')
    refine ⟨⟨HH.out.fns.keep hk, HA.out.keep hk, HC.out.keep hk, HH.out.lenF, HH.out.lenC, HH.out.lenT, HE.out.1, HE.out.2.1, HE.out.2.2.2.1, HE.out.2.2.2.2, by omega, bR, bF, bC, bT, bO⟩, fun b hb' => Nat.lt_of_lt_of_le (HS.out b hb') hbw.size, hbw⟩
  go_wp2_with fail
  go_loopw [32] (fun i wr => ∃ k : Nat, k ≤ nO ∧ i = .int .i64 k ∧ OkTo p f k ∧ RowKit.Below w3.heap.size w3 wr) (fun i _ => nO - (intOf i).toNat)
  case atStart => exact ⟨0, Nat.zero_le _, rfl, fun j x hj => by omega, RowKit.Below.refl _ _⟩
  case round =>
    obtain ⟨k, hk, rfl, hok, hbr⟩ := hrel
    have HOK := Lib.hid hok; have HBR := Lib.hid hbr
    obtain ⟨q1, q2⟩ := HCE.out wr hbr
    have hbz := hbr.size
    clear hok hbr p0 p1 p4
    by_cases hlt : k < nO
    · obtain ⟨i, hi⟩ : ∃ i, f.Code[k]? = some i := ⟨_, List.getElem?_eq_getElem (by rw [← HE.out.2.1]; exact hlt)⟩
      obtain ⟨bc, oc, rfl, hSb, y0, y1, y2, y3, y4, -⟩ := api_Ins_elem (HLK.out wr HBR.out).1.code hi
      have hbc := (HLK.out wr HBR.out).2.1 bc hSb
      have r0 := q2.cell (j := 0) rfl; have r1 := q2.cell (j := 1) rfl; have r2 := q2.cell (j := 2) rfl; have r3 := q2.cell (j := 3) rfl; have r4 := q2.cell (j := 4) rfl; have r5 := q2.cell (j := 5) rfl; have r6 := q2.cell (j := 6) rfl; have r7 := q2.cell (j := 7) rfl
      have hql := q2.lt
      have HI := Lib.hid hi
      obtain ⟨ok, hok⟩ : ∃ ok, ok = ordr p f k i := ⟨_, rfl⟩
      have HO : Hid (∀ W, RowKit.Below wr.heap.size wr W → Calls Tryd.prog 85 #[lkV a0 a1 a2 a3 (some ⟨bc, oc, none⟩) nF c0 nC c1 nT c2 nA c3 nO c4 pa rg gn, .int .i64 k, .agg #[.int .i64 i.Op, .int .i64 i.A, .int .i64 i.B, .int .i64 i.C, .int .i64 i.Line]] W fun e w' => e = .returned (.bool ok) ∧ RowKit.Below w3.heap.size w3 w') := fun W hb => by
        have hb3 : RowKit.Below w3.heap.size w3 W := HBR.out.trans (hb.mono HBR.out.size)
        obtain ⟨l1, l2, l3⟩ := HLK.out W hb3
        refine (order_any (i := i) (k := k) l1 l2).mono ?_
        rintro e w' ⟨rfl, hw'⟩
        exact ⟨by rw [hok], hb3.trans (hw'.mono hb3.size)⟩
      have HOK2 := Lib.hid hok
      clear q1 q2 hi hok hSb
      go_wp2_with fail
      refine (HO.out _ (belowN (RowKit.Below.refl _ _) _)).mono ?_
      rintro e w5 ⟨rfl, hb5⟩
      have HB5 := Lib.hid hb5
      clear hb5 y0 y1 y2 y3 y4 r0 r1 r2 r3 r4 r5 r6 r7 HO
      cases ok with
      | false =>
        have HF : Hid (funcOk p f = false) := by
          show _ = _
          rw [HFO.out, if_pos (all_idx_not (g := fun x => ordr p f x.2 x.1) HI.out HOK2.out.symm)]
        go_wp2_with fail
        go_ret
        exact ⟨by rw [HF.out]; rfl, (HLK.out _ HB5.out).2.2⟩
      | true =>
        go_wp2_with fail
        go_roundw
        case rel => exact ⟨k + 1, by omega, by go_num, HOK.out.succ HI.out HOK2.out.symm, HB5.out⟩
        case measure => simp [intOf]; omega
    · have hall : ∀ (j : Nat) i, f.Code[j]? = some i → ordr p f j i = true := fun j i hi => HOK.out j i (by have := (List.getElem?_eq_some_iff.1 hi).1; have := HE.out.2.1; omega) hi
      have HF : Hid (funcOk p f = !(triesOf f.Code).bad) := by
        show _ = _
        have hz : (f.Code.zipIdx.all fun x => ordr p f x.2 x.1) = true := all_idx.2 hall
        rw [HFO.out, if_neg (by rw [hz]; simp)]
      have r0 := q1.cell (j := 0) rfl; have r1 := q1.cell (j := 1) rfl; have r2 := q1.cell (j := 2) rfl; have r3 := q1.cell (j := 3) rfl; have r4 := q1.cell (j := 4) rfl
      have hql := q1.lt
      have HTR : Hid (Calls Tryd.prog 86 #[.agg #[.int .i64 pa, .int .i64 rg, .bool gn, .slice a3 nA c3, .slice a4 nO c4]] wr (TriesPost wr pa rg gn a3 nA c3 a4 nO c4 f.Code)) := by
        obtain ⟨l1, l2, l3⟩ := HLK.out wr HBR.out
        exact tries_any l1.code l2 HE.out.2.1.symm (aims_of hall) bO
      clear q1 q2 hall
      go_wp2_with (go_at_call 86; (with_reducible refine HTR.out.mono ?_); rintro e w5 ⟨g, gs, go, T, vT, hs, rfl, -, hb5⟩; have HB5 := Lib.hid (HBR.out.trans (hb5.mono HBR.out.size)); clear hb5)
      go_ret
      exact ⟨by rw [HF.out]; rfl, (HLK.out _ HB5.out).2.2⟩
end
end Go.Proofs.YtjlnaiiajlahgaaDoor.cod
