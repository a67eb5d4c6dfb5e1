/- ir.Cut: walked. -/
import Derived.Test.YtekofpigmggbbaaDoorQCutL
import Derived.Test.YtekofpigmggbbaaDoorQApp
import Derived.Test.YtekofpigmggbbaaDoorQChkB
import Derived.Test.YtekofpigmggbbaaDoorQChkE
import Derived.Deep.RegionLaw
import Derived.Deep.RegionHeld3
import Derived.Deep.DrawnRows
import Derived.Deep.DeepCutAuto
import Derived.Test.YtekofpigmggbbaaDoorQSteps
import Derived.Test.YtekofpigmggbbaaDoorQHead
set_option linter.unusedVariables false
set_option linter.unusedSimpArgs false
namespace Go.Proofs.YtekofpigmggbbaaDoor.cut
open Go.Bk Go.RowKit Go.Proofs.YtekofpigmggbbaaDoor.ir Go.Proofs.YtekofpigmggbbaaDoor.chk
attribute [local go_sem ↓] Go.wp_at_zero Go.wp_at_succ
/-- How long the lists of a trace may be here. -/
structure FewT (t : Api.TTrace) : Prop where
 ins : t.Ins.length ≤ 100000
 exits : t.Exits.length ≤ 100000
 each : ∀ x ∈ t.Exits, FewX x
 turn : FewX t.Turn
 back : FewX t.Back
/-- The loop's place, when k instructions are done. -/
def lvOf (t : Api.TTrace) (ts : List Int) (k : Nat) : Int := if 0 ≤ t.Loop ∧ t.Loop < k then (keptN ts t.Loop.toNat : Int) else 0
theorem lvOf_succ {t : Api.TTrace} {ts : List Int} {k : Nat} : lvOf t ts (k + 1) = if t.Loop = k then (keptN ts k : Int) else lvOf t ts k := by
 unfold lvOf
 by_cases h : t.Loop = k
 · rw [if_pos h, if_pos ⟨by omega, by omega⟩, h, Int.toNat_natCast]
 · rw [if_neg h]
   by_cases h2 : 0 ≤ t.Loop ∧ t.Loop < k
   · rw [if_pos h2, if_pos ⟨h2.1, by omega⟩]
   · rw [if_neg h2, if_neg (by omega)]
theorem atOf_succ {ts : List Int} {k : Nat} {n : Int} (h : ts[k]? = some n) : atOf ts (k + 1) = atOf ts k ++ [if n = (k : Int) then (keptN ts k : Int) else if n < 0 then -1 else ((atOf ts k)[n.toNat]?).getD (-1)] := by
 show atOf ts k ++ [_] = _
 rw [nextAt_some h]
theorem toOk_succ {ts : List Int} {k : Nat} {n : Int} (hk : toOk ts k = true) (h : ts[k]? = some n) : toOk ts (k + 1) = (decide (-1 ≤ n) && decide (n ≤ k)) := by
 show (toOk ts k && _) = _
 rw [hk, h]
 rfl
theorem cutTo_in {ts : List Int} {ins : List Api.TIns} {k : Nat} {x : Api.TIns} (hx : ins[k]? = some x) (h : ts[k]? = some (k : Int)) : cutTo ts ins (k + 1) = cutTo ts ins k ++ [cutIns (oneV (atOf ts (k + 1))) x] ∧ fineTo ts ins (k + 1) = (fineTo ts ins k && fineIns (oneV (atOf ts (k + 1))) x) := by
 constructor
 · show cutTo ts ins k ++ _ = _
   rw [hx]
   dsimp only
   rw [if_pos h]
 · show (fineTo ts ins k && _) = _
   rw [hx]
   dsimp only
   rw [if_pos h]
theorem cutTo_out {ts : List Int} {ins : List Api.TIns} {k : Nat} {x : Api.TIns} (hx : ins[k]? = some x) (h : ts[k]? ≠ some (k : Int)) : cutTo ts ins (k + 1) = cutTo ts ins k ∧ fineTo ts ins (k + 1) = fineTo ts ins k := by
 constructor
 · show cutTo ts ins k ++ _ = _
   rw [hx]
   dsimp only
   rw [if_neg h, List.append_nil]
 · show (fineTo ts ins k && _) = _
   rw [hx]
   dsimp only
   rw [if_neg h, Bool.and_true]
theorem cutIns_cells {g : Int → Int} (hg : ∀ v, I64 (g v)) {S S' : Nat → Prop} {w w' : World} {x : Api.TIns} (h : Rep.cells S w (insL x) x) : Rep.cells S' w' (insL (cutIns g x)) (cutIns g x) := by
 obtain ⟨-, h0, h1, h2, h3, h4, h5, h6, h7⟩ := api_TIns_cells_eq h
 have hif : ∀ (p : Prop) [Decidable p] (a b : Int), I64 b → I64 (if p then g a else b) := fun p _ a b hb => by
  split
  · exact hg _
  · exact hb
 exact api_TIns_cells_mk (x := cutIns g x) h0 (hif _ _ _ h1) (hif _ _ _ h2) (hif _ _ _ h3) h4 h5 h6 h7
theorem results_cell_slot {P : Program} {fn : Func} {p q : Tmp} {ty : TypeId} (h : fn.results = #[.cell p ty, .tmp q]) (tmps : Array Value) (w : World) (g : Nat) (t : TypeId) (cs : Array Value) (d : TypeDesc) (v : Value)
 (hp : tmps.getD p undef = .pointer (some ⟨g, 0, none⟩)) (hq : tmps.getD q undef = v) (hg : Row w g t cs)
 (hu : P.underlying ty = some d) (hd : (match d with | .struct _ | .array _ _ => true | _ => false) = true) (hi : (P.info? ty).map (·.size) = some cs.size) :
 (results fn tmps).run P w = .ok (.tuple #[.agg cs, v]) w := by
 have hp' : tmps[p]?.getD undef = .pointer (some ⟨g, 0, none⟩) := by simpa using hp
 have hq' : tmps[q]?.getD undef = v := by simpa using hq
 simp [results, h, hp', hq', asAddr, run_loadVar_row w g t ty cs (0, 0) d hg hu hd hi]
theorem buildIns_run (w : World) (v0 v1 v2 v3 v4 v5 v6 v7 : Value) : (Instr.buildSlice 27 1 #[(0, .agg #[v0, v1, v2, v3, v4, v5, v6, v7])]).run Tryd.prog w = .ok (.slice (some ⟨w.heap.size, 0, none⟩) 1 1) (w.alloc (.cells #[v0, v1, v2, v3, v4, v5, v6, v7] 43)) := by
 simp [Instr.buildSlice, go_sem]
theorem storeX_run {w : World} {g k : Nat} {v0 v1 v2 v3 : Value} {p q : Int} {a a' : Option Addr} {n c n' c' : Nat}
 (o0 : w.cell? ⟨g, k, none⟩ = some v0) (o1 : w.cell? ⟨g, k + 1, none⟩ = some v1) (o2 : w.cell? ⟨g, k + 2, none⟩ = some v2) (o3 : w.cell? ⟨g, k + 3, none⟩ = some v3) (hf : ∀ i, w.frozen? ⟨g, i, none⟩ = false) (lo : g < w.heap.size) :
 (Instr.storeAt 32 (.pointer (some ⟨g, k, none⟩)) (.agg #[.int .i64 p, .int .i64 q, .slice a n c, .slice a' n' c'])).run Tryd.prog w = .ok () ((((w.setCell ⟨g, k, none⟩ (.int .i64 p)).setCell ⟨g, k + 1, none⟩ (.int .i64 q)).setCell ⟨g, k + 2, none⟩ (.slice a n c)).setCell ⟨g, k + 3, none⟩ (.slice a' n' c')) := by
 simp [Instr.storeAt, go_sem, o0, o1, o2, o3, hf, lo]
theorem list_store {P : Program} {ops : Array Oper} {Q : Exit → Act → World → Prop} {o : Oper} {x y : Operand} {ty : TypeId} {u v : Value} {a : Act} {w w' : World} {rest : List Oper} (hg : o.guard = none) (ho : o.op = .store ty x y) (hx : a.eval x = u) (hy : a.eval y = v) (hr : (Instr.storeAt ty u v).run P w = .ok () w') (h : wpList P ops Q rest (a.put o.dst undef) w') : wpList P ops Q (o :: rest) a w := by
 unfold wpList
 rw [if_pos (by simp [Region.wanted, hg])]
 refine .inl ?_
 unfold Oper.wp execOp
 simp only [ho, hx, hy]
 rw [Sem.run_bind, hr]
 exact h
theorem two_stores {w : World} {g : Nat} {cs : List Value} (hb : Blk w g 34 cs) (hl : cs.length = 13) {p q p' q' : Int} {a2 a3 b2 b3 : Option Addr} {n2 c2 n3 c3 m2 d2 m3 d3 : Nat} {w1 : World}
 (h1 : w1 = (((w.setCell ⟨g, 5, none⟩ (.int .i64 p)).setCell ⟨g, 6, none⟩ (.int .i64 q)).setCell ⟨g, 7, none⟩ (.slice a2 n2 c2)).setCell ⟨g, 8, none⟩ (.slice a3 n3 c3)) :
 (Instr.storeAt 32 (.pointer (some ⟨g, 5, none⟩)) (.agg #[.int .i64 p, .int .i64 q, .slice a2 n2 c2, .slice a3 n3 c3])).run Tryd.prog w = .ok () w1 ∧
 (Instr.storeAt 32 (.pointer (some ⟨g, 9, none⟩)) (.agg #[.int .i64 p', .int .i64 q', .slice b2 m2 d2, .slice b3 m3 d3])).run Tryd.prog w1 = .ok () ((((w1.setCell ⟨g, 9, none⟩ (.int .i64 p')).setCell ⟨g, 10, none⟩ (.int .i64 q')).setCell ⟨g, 11, none⟩ (.slice b2 m2 d2)).setCell ⟨g, 12, none⟩ (.slice b3 m3 d3)) := by
 have e : ∀ j (h : j < 13), w.cell? ⟨g, j, none⟩ = some (cs[j]'(by omega)) := fun j h => hb.cell (List.getElem?_eq_getElem _)
 refine ⟨by rw [h1]; exact storeX_run (k := 5) (e 5 (by omega)) (e 6 (by omega)) (e 7 (by omega)) (e 8 (by omega)) hb.frozen hb.lt, ?_⟩
 have e9 := e 9 (by omega); have e10 := e 10 (by omega); have e11 := e 11 (by omega); have e12 := e 12 (by omega)
 have e5 := e 5 (by omega); have e6 := e 6 (by omega); have e7 := e 7 (by omega); have e8 := e 8 (by omega)
 have hlt := hb.lt
 refine storeX_run (k := 9) (v0 := cs[9]) (v1 := cs[10]) (v2 := cs[11]) (v3 := cs[12]) ?_ ?_ ?_ ?_ (fun i => ?_) ?_
 all_goals rw [h1]
 all_goals simp [go_sem, e9, e10, e11, e12, e5, e6, e7, e8, hb.frozen, hlt]
/-- A trace stored whole. -/
theorem stT {ops : Array Oper} {Q : Exit → Act → World → Prop} {a : Act} {o : Oper} {w : World} {rest : List Oper} {x y : Operand} {g : Nat} {C OLD : Array Value} (hgd : o.guard = none) (ho : o.op = .store 34 x y) (hx : a.eval x = .pointer (some ⟨g, 0, none⟩)) (hy : a.eval y = .agg C) (hg : Row w g 34 OLD) (hs : C.size = 13) (hs' : OLD.size = 13) (h1 : C.all (·.oneCell') = true)
 (h : wpList Tryd.prog ops Q rest (a.put o.dst undef) (w.setRow g C)) : wpList Tryd.prog ops Q (o :: rest) a w :=
 wpList_store_row hgd 34 x y ho g C hx hy _ OLD hg (infoT hs) (by rw [hs, hs']) h1 h
set_option maxRecDepth 100000 in
set_option maxHeartbeats 40000000 in
theorem icut_any {S R : Nat → Prop} {w : World} {T : Array Value} {t : Api.TTrace} {ts : List Int} {aT : Option Addr} {nT cT : Nat} (ht : Rep.cells S w T.toList t) (hS : ∀ b, S b → b < w.heap.size) (hts : Arr R w aT ts) (hR : ∀ b, R b → b < w.heap.size) (hn : ts.length = nT) (hfew : FewT t) :
 Calls Tryd.prog 37 #[.agg T, .slice aT nT cT] w fun e w' => ∃ cs : List Value, e = .returned (.tuple #[.agg cs.toArray, .int .i64 (cutG t ts).2]) ∧ Rep.cells (Fresh w w') w' cs (cutG t ts).1 ∧ Below w.heap.size w w' := by
 obtain ⟨aI, nI, cI, aE, nE, cE, a7, n7, c7, a8, n8, c8, b7, m7, d7, b8, m8, d8, hT⟩ := tall_of ht
 have hsT : T.size = 13 := rep_size ht
 have HFA : Hid (I64 t.Fn ∧ I64 t.At) := by obtain ⟨_, _, ⟨rfl, h0⟩, ⟨_, _, ⟨rfl, h1⟩, _, _⟩, _⟩ := ht; exact ⟨h0, h1⟩
 have hI9 : nI ≤ 100000 := by rw [← hT.lenI]; exact hfew.ins
 have hE9 : nE ≤ 100000 := by rw [← hT.lenE]; exact hfew.exits
 have hT9 : nT ≤ 9223372036854775807 := by rw [← hn]; have := hts.small; unfold maxLen at this; omega
 obtain ⟨w2, hw2⟩ : ∃ w2, w2 = (w.alloc (.cells T 34)).alloc (.cells zeroTL.toArray 34) := ⟨_, rfl⟩
 obtain ⟨k1, k2, hb2, hz2⟩ := rowsTwo w T zeroTL.toArray _ _ w2 hw2
 have HCE : Hid (∀ W, Below w.heap.size w W → TAll S W T t aI nI cI aE nE cE a7 n7 c7 a8 n8 c8 b7 m7 d7 b8 m8 d8 ∧ Arr R W aT ts) := fun W hb =>
  ⟨hT.keep fun b hb' => hb.block b (hS b hb'), hts.keep fun b hb' => hb.block b (hR b hb')⟩
 have HS := Lib.hid hS; have HR := Lib.hid hR; have HN := Lib.hid hn; have HFEW := Lib.hid hfew
 have HLI := Lib.hid hT.lenI; have HLE := Lib.hid hT.lenE; have HTE := Lib.hid hT.eq
 have HB2 := Lib.hid hb2; have HZ2 := Lib.hid hz2; have HK1 := Lib.hid k1; have HK2 := Lib.hid k2
 have t3 := k1.cell (j := 3) (by rw [hT.eq]; rfl); have t0 := k1.cell (j := 0) (by rw [hT.eq]; rfl); have t1 := k1.cell (j := 1) (by rw [hT.eq]; rfl)
 have l1 := k1.lt; have l2 := k2.lt
 have HZO : Hid ((zeroTL.toArray).all (·.oneCell') = true) := by show _ = _; simp [zeroTL, Value.oneCell']
 have HZE : Hid (∀ W W', Rep.cells (Fresh W W') W' zeroTL zeroT) := fun W W' => by
  have h0 : I64 0 := by unfold I64; omega
  exact ⟨_, _, ⟨rfl, h0⟩, ⟨_, _, ⟨rfl, h0⟩, ⟨_, _, ⟨rfl, h0⟩, ⟨_, _, ⟨none, 0, rfl, Nat.le_refl _, fun _ => rfl, Arr.nil _ _ _⟩, ⟨_, _, ⟨none, 0, rfl, Nat.le_refl _, fun _ => rfl, Arr.nil _ _ _⟩, ⟨_, _, zero_exit, zero_exit, rfl⟩, rfl⟩, rfl⟩, rfl⟩, rfl⟩, rfl⟩
 clear ht hS hts hR hn hfew hT k1 k2 hb2
 go_enter Tryd.func37, Tryd.ntmps37
 go_upto_region 1 with fail
 rw [show (w.alloc (.cells T 34)).alloc (.cells #[.int .i64 0, .int .i64 0, .int .i64 0, .slice none 0 0, .slice none 0 0, .int .i64 0, .int .i64 0, .slice none 0 0, .slice none 0 0, .int .i64 0, .int .i64 0, .slice none 0 0, .slice none 0 0] 34) = w2 from hw2.symm]
 clear hw2
 by_cases hlen : nT = nI
 case neg =>
  have HF : Hid (cutG t ts = (zeroT, 3)) := by
   show _ = _
   unfold cutG toRight
   rw [if_neg]
   simp
   intro h
   rw [HN.out, HLI.out] at h
   exact absurd h hlen
  have dn : ((nT : Int) != (nI : Int)) = true := by simp; omega
  go_wp2_with (with_reducible refine stT (OLD := zeroTL.toArray) (C := zeroTL.toArray) rfl rfl rfl rfl HK2.out rfl rfl HZO.out ?_)
  have HYB : Hid (Row (w2.setRow (w.heap.size + 1) zeroTL.toArray) (w.heap.size + 1) 34 zeroTL.toArray) := setRow_heap _ _ _ _ _ _ HK2.out
  (try simp only [Exit.inBlock, Exit.then])
  refine bodyPost_ret (results_cell_slot rfl _ _ _ _ _ _ _ rfl rfl HYB.out Tryd.underlying34 rfl rfl) rfl ⟨zeroTL, by rw [HF.out]; rfl, by rw [HF.out]; exact HZE.out _ _, below_setRow HB2.out (by omega) _⟩
 case pos =>
  subst hlen
  have dn : ((nT : Int) != (nT : Int)) = false := by simp
  go_upto_region 5 with fail
  have HST : Hid (IL T t w ((w2.alloc (.cells #[.slice none 0 0, .bool true] 145)).alloc (.cells (outZ t 0 (.slice none 0 0) (.slice none 0 0)).toArray 34)) (.slice none 0 0) (.slice none 0 0) (atOf ts 0) (cutTo ts t.Ins 0) (lvOf t ts 0) (fineTo ts t.Ins 0)) := by
   have hz2 := HZ2.out
   have q1 : Below w2.heap.size w2 ((w2.alloc (.cells #[.slice none 0 0, .bool true] 145)).alloc (.cells (outZ t 0 (.slice none 0 0) (.slice none 0 0)).toArray 34)) := ((Below.refl _ _).alloc (Nat.le_refl _) _).alloc (by simp) _
   refine ⟨HK1.out.keep (q1.block _ HK1.out.lt), HK2.out.blk.keep (q1.block _ HK2.out.lt), ?_, ?_, Own.nil _ _ _ _, Own.nil _ _ _ _, Apart.nil_left _ _ _, HB2.out.trans (q1.mono HB2.out.size), by simp; omega⟩
   · have := blk_new w2 [.slice none 0 0, .bool true] 145
     rw [hz2] at this
     exact this.keep (Below.heap_alloc _ _ _ (by simp; omega))
   · have := blk_new (w2.alloc (.cells #[.slice none 0 0, .bool true] 145)) (outZ t 0 (.slice none 0 0) (.slice none 0 0)) 34
     rw [World.size_alloc, hz2] at this
     have e : lvOf t ts 0 = 0 := by unfold lvOf; rw [if_neg (by omega)]
     rw [e]
     exact this
  rw [show w.heap.size + 1 + 1 = w.heap.size + 2 from rfl]
  (try rw [show w.heap.size + 2 + 1 = w.heap.size + 3 from rfl])
  generalize hW3 : (w2.alloc (.cells #[.slice none 0 0, .bool true] 145)).alloc (.cells (outZ t 0 (.slice none 0 0) (.slice none 0 0)).toArray 34) = w3 at HST
  rw [show (w2.alloc (.cells #[.slice none 0 0, .bool true] 145)).alloc (.cells #[.int .i64 t.Fn, .int .i64 t.At, .int .i64 0, .slice none 0 0, .slice none 0 0, .int .i64 0, .int .i64 0, .slice none 0 0, .slice none 0 0, .int .i64 0, .int .i64 0, .slice none 0 0, .slice none 0 0] 34) = w3 from hW3]
  clear hW3 t0 t1 t3 l1 l2 hz2
  have HTC : Hid (∀ W, Row W w.heap.size 34 T → W.cell? ⟨w.heap.size, 2, none⟩ = some (.int .i64 t.Loop) ∧ W.cell? ⟨w.heap.size, 3, none⟩ = some (.slice aI nT cI) ∧ W.cell? ⟨w.heap.size, 4, none⟩ = some (.slice aE nE cE) ∧ w.heap.size < W.heap.size) := fun W h =>
   ⟨h.cell (j := 2) (by rw [HTE.out]; rfl), h.cell (j := 3) (by rw [HTE.out]; rfl), h.cell (j := 4) (by rw [HTE.out]; rfl), h.lt⟩
  obtain ⟨t2, t3, t4, l1⟩ := HTC.out w3 HST.out.box
  go_wp2_with fail
  clear t2 t3 t4 l1
  go_loopw [30] (fun i W => ∃ (k : Nat) (vA vI : Value), k ≤ nT ∧ i = .int .i64 k ∧ toOk ts k = true ∧ IL T t w W vA vI (atOf ts k) (cutTo ts t.Ins k) (lvOf t ts k) (fineTo ts t.Ins k)) (fun i _ => nT - (intOf i).toNat)
  case atStart => exact ⟨0, _, _, Nat.zero_le _, rfl, rfl, HST.out⟩
  case round =>
   obtain ⟨k, vA, vI, hk, rfl, hok, hil⟩ := hrel
   have HOK := Lib.hid hok
   have HIL := Lib.hid hil
   obtain ⟨hTA, hTS⟩ := HCE.out _ hil.below
   by_cases hlt : k < nT
   · as_aux_lemma =>
      obtain ⟨x, hx⟩ : ∃ x, t.Ins[k]? = some x := ⟨_, List.getElem?_eq_getElem (by rw [HLI.out]; exact hlt)⟩
      obtain ⟨n, hn⟩ : ∃ n, ts[k]? = some n := ⟨_, List.getElem?_eq_getElem (by rw [HN.out]; exact hlt)⟩
      obtain ⟨bi, oi, rfl, hSi, i0, i1, i2, i3, i4, i5, i6, i7, j0, j1, j2, j3, j4, j5, j6, j7⟩ := api_TIns_elem hTA.ins hx
      have hbi := HS.out bi hSi
      obtain ⟨bt, ot, cs, rfl, hbt, ⟨rfl, hn64⟩, g1⟩ := hTS.at hn
      have hbtl := HR.out bt hbt
      have HXC : Hid (∀ W, Rep.cells (fun _ => False) W (insL x) x) := fun W => api_TIns_cells_mk j0 j1 j2 j3 j4 j5 j6 j7
      have hsz := hil.size
      obtain ⟨t2, t3, t4, l1⟩ := HTC.out wr hil.box
      have HX := Lib.hid hx; have HNN := Lib.hid hn
      have HNC : Hid (∀ W, Below w.heap.size w W → W.cell? ⟨bt, ot + k, none⟩ = some (.int .i64 n)) := fun W hb => by
       have h0 := (HCE.out W hb).2.at HNN.out
       obtain ⟨b', o', cs', e, -, ⟨rfl, -⟩, g1'⟩ := h0
       injection e with e; injection e with e1 e2; subst e1 e2
       simpa [show Rep.sz Int = 1 from rfl] using g1' 0 Nat.zero_lt_one
      clear hSi hbt g1 hx hn j0 j1 j2 j3 j4 j5 j6 j7 hTA hTS hok hil
      go_upto_region 8 with fail
      generalize hW5 : wr.alloc (.cells #[.int .i64 x.Op, .int .i64 x.A, .int .i64 x.B, .int .i64 x.C, .int .i64 x.N, .int .i64 x.Exit, .int .i64 x.K.Kind, .int .i64 x.K.N] 43) = w5
      have hil5 : IL T t w w5 vA vI (atOf ts k) (cutTo ts t.Ins k) (lvOf t ts k) (fineTo ts t.Ins k) := by rw [← hW5]; exact HIL.out.alloc _
      have hxr5 : Row w5 wr.heap.size 43 (insL x).toArray := by rw [← hW5]; exact row_new _ _ _
      have hz5 : w5.heap.size = wr.heap.size + 1 := by rw [← hW5]; simp
      have HIL5 := Lib.hid hil5; have HXR5 := Lib.hid hxr5
      clear hW5 i0 i1 i2 i3 i4 i5 i6 i7 t2 t3 t4 l1
      obtain ⟨t2, t3, t4, l1⟩ := HTC.out w5 hil5.box
      obtain ⟨vi, vin, vic, rfl, hvl⟩ : ∃ a n c, vI = .slice a n c ∧ n = (cutTo ts t.Ins k).length := (by obtain ⟨a, c, h, -⟩ := hil5.ins.arr; exact ⟨a, _, c, h, rfl⟩)
      have hvn : vin = keptN ts k := by rw [hvl]; exact cutTo_len ts t.Ins k (by rw [HLI.out]; omega)
      have hvk := keptN_le ts k
      have HVN := Lib.hid hvn
      have o3 := hil5.out.cell (j := 3) rfl
      have o2 := hil5.out.cell (j := 2) rfl
      have o2f := hil5.out.frozen 2
      have lo := hil5.out.lt
      clear hil5 hxr5 hvl hvn
      go_upto_if 38 with fail
      go_cut [] (fun W => IL T t w W vA (.slice vi vin vic) (atOf ts k) (cutTo ts t.Ins k) (lvOf t ts (k + 1)) (fineTo ts t.Ins k) ∧ Row W wr.heap.size 43 (insL x).toArray ∧ W.heap.size = wr.heap.size + 1)
      case first =>
       as_aux_lemma =>
        by_cases hL : t.Loop = k
        · have d1 : ((k : Int) == t.Loop) = true := by simp [hL]
          have HLV : Hid (lvOf t ts (k + 1) = (vin : Int)) := by show _ = _; rw [lvOf_succ, if_pos hL, HVN.out]
          clear hL
          go_wp2_with fail
          go_meet
          exact ⟨by rw [HLV.out]; exact HIL5.out.loop _, HXR5.out.keep (blk_setCell_other _ _ _ (by show wr.heap.size ≠ w.heap.size + 3; omega)), by rw [size_setCell]; exact hz5⟩
        · have d1 : ((k : Int) == t.Loop) = false := by simp; omega
          have HLV : Hid (lvOf t ts (k + 1) = lvOf t ts k) := by show _ = _; rw [lvOf_succ, if_neg hL]
          clear hL
          go_wp2_with fail
          go_meet
          exact ⟨by rw [HLV.out]; exact HIL5.out, HXR5.out, hz5⟩
      case rest =>
       obtain ⟨hil6, hxr6, hz6⟩ := hcut
       obtain ⟨w6, hw6⟩ : ∃ w6 : World, w6 = wc := ⟨_, rfl⟩
       rw [← hw6] at hil6 hxr6 hz6 ⊢
       have HIL6 := Lib.hid hil6; have HXR6 := Lib.hid hxr6
       have c0 := HNC.out w6 hil6.below
       have hbl := hil6.below.size
       clear hw6 t2 t3 t4 l1 o2 o3 o2f lo hil6 hxr6 HIL5 HXR5
       have p0 := HIL6.out.cut.cell (j := 0) rfl; have p3 := HIL6.out.out.cell (j := 3) rfl
       have lc := HIL6.out.cut.lt
       have HVA : Hid (∀ c, vA.ownBlock = some c → c < wr.heap.size) := fun c hc => (HIL.out.at'.lt c hc).2
       by_cases hnk : n = k
       · as_aux_lemma =>
          subst hnk
          have d1 : ((k : Int) == (k : Int)) = true := by simp
          have HAT : Hid (atOf ts (k + 1) = atOf ts k ++ [(vin : Int)]) := by show _ = _; rw [atOf_succ HNN.out, if_pos rfl, HVN.out]
          have HTO : Hid (toOk ts (k + 1) = true) := by show _ = _; rw [toOk_succ HOK.out HNN.out, Bool.and_eq_true, decide_eq_true_eq, decide_eq_true_eq]; omega
          have HIV : Hid (I64 (vin : Int)) := by show I64 _; have := HVN.out; unfold I64; omega
          have p0a : (w6.alloc (.cells #[.int .i64 (vin : Int)] 3)).cell? ⟨w.heap.size + 2, 0, none⟩ = some vA := (HIL6.out.alloc _).cut.cell (j := 0) rfl
          have HO6 := Lib.hid HIL6.out.drew.at'
          have HAL : Hid ((atOf ts k).length = k) := atOf_len ts k
          have hs6 : w6.drew.heap.size = wr.heap.size + 1 := hz6
          go_upto_region 13 with fail
          clear c0
          go_cut [] (fun W => ∃ vA', IL T t w W vA' (.slice vi vin vic) (atOf ts (k + 1)) (cutTo ts t.Ins k) (lvOf t ts (k + 1)) (fineTo ts t.Ins k) ∧ Row W wr.heap.size 43 (insL x).toArray)
          case first =>
           as_aux_lemma =>
            refine wp_region_noPanic ?_
            go_region_law (first
             | (refine step_append1s (α := Int) (S := fun _ => False) (B := w.heap.size + 4) (e := 3) (xs := atOf ts k) (y := (vin : Int)) (cs := [.int .i64 (vin : Int)]) (w0 := w6.drew) (e' := 3) rfl rfl Tryd.underlying58 Tryd.infoRep58 (by decide) (by decide) (by simp [Act.eval, Act.put]) (g := w6.drew.heap.size) (by simp [Act.eval, Act.put]) rfl rfl HO6.out ⟨rfl, HIV.out⟩ (fun _ h => h.elim) (by have := HAL.out; unfold maxLen; omega) (by have := HAL.out; omega) (by omega) ?_
                intro v7 w7 hown7 hg7 hst7
                obtain ⟨va, ln, vc, rfl⟩ : ∃ va ln vc, v7 = .slice va ln vc := (by obtain ⟨a, c, h, -⟩ := hown7.arr; exact ⟨a, _, c, h⟩)
                have HN7 := Lib.hid (HIL6.out.drew.more hown7 hg7 hst7)
                have HR7 : Hid (Row w7 wr.heap.size 43 (insL x).toArray) := HXR6.out.keep (hg7.block _ (by omega) (fun e => by have := HVA.out _ e.symm; omega))
                have e0 := HN7.out.2.cell (j := 0) rfl
                have e1 := HN7.out.2.frozen 0
                have e2 := HN7.out.2.lt
                clear hown7 hg7 hst7))
            all_goals refine NoPanic.normal ?_
            all_goals go_wp2_with fail
            all_goals go_meet
            all_goals exact ⟨_, by rw [HAT.out]; exact HN7.out.1, HR7.out.keep (blk_setCell_other _ _ _ (by show wr.heap.size ≠ w.heap.size + 2; omega))⟩
          case rest =>
           obtain ⟨vA7, hil7, hxr7⟩ := hcut
           obtain ⟨w7, hw7⟩ : ∃ w7 : World, w7 = wc := ⟨_, rfl⟩
           rw [← hw7] at hil7 hxr7 ⊢
           have HIL7 := Lib.hid hil7; have HXR7 := Lib.hid hxr7
           clear hw7 hil7 hxr7 p0 p3 p0a lc hs6 HO6
           obtain ⟨la1, lac, hvA7, hcst7⟩ := HIL7.out.drew.cst
           obtain ⟨y, hy⟩ : ∃ y, y = cutIns (oneV (atOf ts (k + 1))) x := ⟨_, rfl⟩
           have HVA7 := Lib.hid hvA7
           have HCI : Hid (Calls Tryd.prog 85 #[.pointer (some ⟨w.heap.size + 2, 0, none⟩), .agg #[.int .i64 x.Op, .int .i64 x.A, .int .i64 x.B, .int .i64 x.C, .int .i64 x.N, .int .i64 x.Exit, .int .i64 x.K.Kind, .int .i64 x.K.N]] w7.drew fun e W' =>
            e = .returned (.agg #[.int .i64 y.Op, .int .i64 y.A, .int .i64 y.B, .int .i64 y.C, .int .i64 y.N, .int .i64 y.Exit, .int .i64 y.K.Kind, .int .i64 y.K.N]) ∧ CSt (fun j => w.heap.size + 4 ≤ j ∧ j < w7.drew.heap.size) W' (w.heap.size + 2) la1 (atOf ts (k + 1)).length lac (atOf ts (k + 1)) (fineTo ts t.Ins k && fineIns (oneV (atOf ts (k + 1))) x) ∧ Wr w7.drew.heap.size (w.heap.size + 2) w7.drew W') := by
            rw [hy]; exact ins_any hcst7 x
           have HYC : Hid (∀ W : World, Rep.cells (fun _ => False) W [.int .i64 y.Op, .int .i64 y.A, .int .i64 y.B, .int .i64 y.C, .int .i64 y.N, .int .i64 y.Exit, .int .i64 y.K.Kind, .int .i64 y.K.N] y) := fun W => by
            rw [hy]
            exact cutIns_cells (fun v => oneV_i64 ts (k + 1) (by omega) v) (HXC.out w)
           have HY := Lib.hid hy
           have HLL : Hid ((cutTo ts t.Ins k).length ≤ 100000) := by show _ ≤ _; rw [cutTo_len ts t.Ins k (by rw [HLI.out]; omega)]; omega
           have x0 := HXR7.out.cell (j := 0) rfl; have x1 := HXR7.out.cell (j := 1) rfl; have x2 := HXR7.out.cell (j := 2) rfl; have x3 := HXR7.out.cell (j := 3) rfl; have x4 := HXR7.out.cell (j := 4) rfl; have x5 := HXR7.out.cell (j := 5) rfl; have x6 := HXR7.out.cell (j := 6) rfl; have x7 := HXR7.out.cell (j := 7) rfl
           have lx := HXR7.out.lt
           have q3 := HIL7.out.out.cell (j := 3) rfl
           have HE : Hid (∀ args w, (callFunc 85 args).run Tryd.prog w = .ok (.enter 85 args) w) := Tryd.call85
           clear hvA7 hcst7 hy
           obtain ⟨C0, HCC⟩ : ∃ C0 : World → Prop, Hid (∀ W, C0 W ↔ (W.cell? ⟨w.heap.size + 3, 3, none⟩ = some (.slice vi vin vic) ∧ Row W wr.heap.size 43 (insL x).toArray)) := ⟨_, fun _ => Iff.rfl⟩
           have HC0 : Hid (C0 w7.drew) := (HCC.out _).2 ⟨HIL7.out.drew.out.cell (j := 3) rfl, HXR7.out⟩
           have HXD : Hid (Row w7.drew wr.heap.size 43 (insL x).toArray) := HXR7.out.keep rfl
           have HC8F : Hid (∀ W : World, Wr w7.drew.heap.size (w.heap.size + 2) w7.drew W → Blk W (w.heap.size + 3) 34 (outZ t (lvOf t ts (k + 1)) (.slice vi vin vic) (.slice none 0 0)) → C0 W) := fun W hw ho => (HCC.out _).2 ⟨ho.cell (j := 3) rfl, HXD.out.keep (hw.block _ HXD.out.lt (by omega))⟩
           have HC9F : Hid (∀ W : World, C0 W → IL T t w W vA7 (.slice vi vin vic) (atOf ts (k + 1)) (cutTo ts t.Ins k) (lvOf t ts (k + 1)) (fineTo ts t.Ins k && fineIns (oneV (atOf ts (k + 1))) x) → C0 (W.alloc (.cells #[.int .i64 y.Op, .int .i64 y.A, .int .i64 y.B, .int .i64 y.C, .int .i64 y.N, .int .i64 y.Exit, .int .i64 y.K.Kind, .int .i64 y.K.N] 43))) := fun W hc hi => (HCC.out _).2 ⟨(hi.alloc _).out.cell (j := 3) rfl, (((HCC.out _).1 hc).2).keep ((Below.heap_alloc _ _ _ ((((HCC.out _).1 hc).2).lt)))⟩
           go_upto_region 14 with fail
           have HNEC : Nonempty (HeldW C0) := ⟨⟨_, HC0.out⟩⟩
           refine wp_region_headC C0 4 6 20 (by kernel_rfl) (by kernel_rfl) (by kernel_rfl) (by kernel_rfl) HC0.out ?_
           simp only [List.take_succ_cons, List.take_zero, List.drop_succ_cons, List.drop_zero]
           have hd1 : ∀ d : HeldW C0, d.val.cell? ⟨w.heap.size + 3, 3, none⟩ = some (.slice vi vin vic) := fun d => ((HCC.out _).1 d.ok).1
           have hx0 : ∀ d : HeldW C0, d.val.cell? ⟨wr.heap.size, 0, none⟩ = some (.int .i64 x.Op) := fun d => ((HCC.out _).1 d.ok).2.cell (j := 0) rfl
           have hx1 : ∀ d : HeldW C0, d.val.cell? ⟨wr.heap.size, 1, none⟩ = some (.int .i64 x.A) := fun d => ((HCC.out _).1 d.ok).2.cell (j := 1) rfl
           have hx2 : ∀ d : HeldW C0, d.val.cell? ⟨wr.heap.size, 2, none⟩ = some (.int .i64 x.B) := fun d => ((HCC.out _).1 d.ok).2.cell (j := 2) rfl
           have hx3 : ∀ d : HeldW C0, d.val.cell? ⟨wr.heap.size, 3, none⟩ = some (.int .i64 x.C) := fun d => ((HCC.out _).1 d.ok).2.cell (j := 3) rfl
           have hx4 : ∀ d : HeldW C0, d.val.cell? ⟨wr.heap.size, 4, none⟩ = some (.int .i64 x.N) := fun d => ((HCC.out _).1 d.ok).2.cell (j := 4) rfl
           have hx5 : ∀ d : HeldW C0, d.val.cell? ⟨wr.heap.size, 5, none⟩ = some (.int .i64 x.Exit) := fun d => ((HCC.out _).1 d.ok).2.cell (j := 5) rfl
           have hx6 : ∀ d : HeldW C0, d.val.cell? ⟨wr.heap.size, 6, none⟩ = some (.int .i64 x.K.Kind) := fun d => ((HCC.out _).1 d.ok).2.cell (j := 6) rfl
           have hx7 : ∀ d : HeldW C0, d.val.cell? ⟨wr.heap.size, 7, none⟩ = some (.int .i64 x.K.N) := fun d => ((HCC.out _).1 d.ok).2.cell (j := 7) rfl
           have hxl : ∀ d : HeldW C0, wr.heap.size < d.val.heap.size := fun d => ((HCC.out _).1 d.ok).2.lt
           repeat (go_big_quiet_step (fail))
           refine wpQuiet_nil ?_
           clear hd1 hx0 hx1 hx2 hx3 hx4 hx5 hx6 hx7 hxl
           refine wpTail_one rfl fun RR HRR => ?_
           go_wp2_with (go_at_call 85; refine HCI.out.mono ?_; rintro e w8 ⟨rfl, hc8, hw8⟩; have HIL8 := Lib.hid (HIL7.out.drew.called HVA7.out hw8 hc8); have HC8 := Lib.hid (HC8F.out _ hw8 HIL8.out.out); have HO8 := Lib.hid HIL8.out.ins; have hs8 := HIL8.out.size; clear hc8 hw8)
           refine AfterT.normal (HRR _ _ (isC HC8.out) ?_)
           clear HRR RR
           refine wpTail_one rfl fun RR HRR => ?_
           have HC9 := Lib.hid (HC9F.out _ HC8.out HIL8.out)
           have HBR := Lib.hid (buildIns_run w8 (.int .i64 y.Op) (.int .i64 y.A) (.int .i64 y.B) (.int .i64 y.C) (.int .i64 y.N) (.int .i64 y.Exit) (.int .i64 y.K.Kind) (.int .i64 y.K.N))
           refine list_build (v := .agg #[.int .i64 y.Op, .int .i64 y.A, .int .i64 y.B, .int .i64 y.C, .int .i64 y.N, .int .i64 y.Exit, .int .i64 y.K.Kind, .int .i64 y.K.N]) rfl rfl (by simp [Act.eval]) (by with_reducible exact HBR.out) (HRR _ _ (isC HC9.out) ?_)
           clear HRR RR
           simp only [Act.put, List.setIfInBounds_toArray, List.set_cons_zero, List.set_cons_succ]
           refine wpTail_zero ?_
           go_wp2_with (at_builtin; (with_reducible refine Tryd.wp_appd27 (S := fun _ => False) (v := .slice vi vin vic) (xs := cutTo ts t.Ins k) (y := y) (cs := [.int .i64 y.Op, .int .i64 y.A, .int .i64 y.B, .int .i64 y.C, .int .i64 y.N, .int .i64 y.Exit, .int .i64 y.K.Kind, .int .i64 y.K.N]) (w0 := w8) rfl rfl (by with_unfolding_all rfl) rfl rfl (by first | rfl | omega) HO8.out (HYC.out _) (fun _ h => h.elim) (by have := HLL.out; omega) (by omega) fun v9 w9 hown9 hg9 hst9 => ?_); obtain ⟨va, ln, vc, rfl⟩ : ∃ va ln vc, v9 = .slice va ln vc := (by obtain ⟨a, c, h, -⟩ := hown9.arr; exact ⟨a, _, c, h⟩); have HN9 := Lib.hid (HIL8.out.keep1 hown9 hg9 hst9); have HNX : Hid (IL T t w (w9.setCell ⟨w.heap.size + 3, 3, none⟩ (.slice va ln vc)) vA7 (.slice va ln vc) (atOf ts (k + 1)) (cutTo ts t.Ins (k + 1)) (lvOf t ts (k + 1)) (fineTo ts t.Ins (k + 1))) := (by obtain ⟨u1, u2⟩ := cutTo_in HX.out HNN.out; have h := HN9.out.1; rw [HY.out] at h; rw [u1, u2]; exact h); have e0 := HN9.out.2.cell (j := 3) rfl; have e1 := HN9.out.2.frozen 3; have e2 := HN9.out.2.lt; clear hown9 hg9 hst9)
           all_goals refine NoPanic.normal ?_
           all_goals
            go_wp2_with fail
            go_roundw
           all_goals first
            | exact ⟨k + 1, _, _, by omega, by go_num, HTO.out, HNX.out⟩
            | (simp [intOf]; omega)
       · as_aux_lemma =>
          have d1 : (n == (k : Int)) = false := by simpa using hnk
          have HOUT := Lib.hid (cutTo_out HX.out (show ts[k]? ≠ some (k : Int) by rw [HNN.out]; intro e; exact hnk (Option.some.inj e)))
          by_cases hm1 : n = -1
          · as_aux_lemma =>
             subst hm1
             have HAT : Hid (atOf ts (k + 1) = atOf ts k ++ [-1]) := by show _ = _; rw [atOf_succ HNN.out, if_neg (by omega), if_pos (by omega)]
             have HTO : Hid (toOk ts (k + 1) = true) := by show _ = _; rw [toOk_succ HOK.out HNN.out, Bool.and_eq_true, decide_eq_true_eq, decide_eq_true_eq]; omega
             have HO6 := Lib.hid HIL6.out.at'
             have HAL : Hid ((atOf ts k).length = k) := atOf_len ts k
             have HM1 : Hid (I64 (-1)) := by show I64 _; unfold I64; omega
             have HM2 : Hid (Rep.cells (fun _ => False) w6 [.int .i64 (-1)] (-1 : Int)) := ⟨rfl, HM1.out⟩
             have hs6 := HIL6.out.size
             go_wp2_with (at_builtin; (with_reducible refine Tryd.wp_appd58 (S := fun _ => False) (v := vA) (xs := atOf ts k) (y := (-1 : Int)) (cs := [.int .i64 (-1)]) (w0 := w6) rfl rfl (by with_unfolding_all rfl) rfl rfl (by first | rfl | omega) HO6.out HM2.out (fun _ h => h.elim) (by have := HAL.out; omega) (by omega) fun v7 w7 hown7 hg7 hst7 => ?_); obtain ⟨va, ln, vc, rfl⟩ : ∃ va ln vc, v7 = .slice va ln vc := (by obtain ⟨a, c, h, -⟩ := hown7.arr; exact ⟨a, _, c, h⟩); have HN7 := Lib.hid (HIL6.out.more hown7 hg7 hst7); have e0 := HN7.out.2.cell (j := 0) rfl; have e1 := HN7.out.2.frozen 0; have e2 := HN7.out.2.lt; clear hown7 hg7 hst7)
             go_roundw
             case rel => exact ⟨k + 1, _, _, by omega, by go_num, HTO.out, by rw [HAT.out, HOUT.out.1, HOUT.out.2]; exact HN7.out.1⟩
             case measure => simp [intOf]; omega
          by_cases hin : 0 ≤ n ∧ n < k
          · as_aux_lemma =>
             obtain ⟨j, rfl⟩ : ∃ j : Nat, n = j := ⟨n.toNat, by omega⟩
             have hjk : j < k := by omega
             obtain ⟨y, hy⟩ : ∃ y, (atOf ts k)[j]? = some y := ⟨_, atOf_get ts hjk⟩
             have HAT : Hid (atOf ts (k + 1) = atOf ts k ++ [y]) := by show _ = _; rw [atOf_succ HNN.out, if_neg (by omega), if_neg (by omega), Int.toNat_natCast, hy, Option.getD_some]
             have HTO : Hid (toOk ts (k + 1) = true) := by show _ = _; rw [toOk_succ HOK.out HNN.out, Bool.and_eq_true, decide_eq_true_eq, decide_eq_true_eq]; omega
             have HAL : Hid ((atOf ts k).length = k) := atOf_len ts k
             obtain ⟨aA, cA, hvA, -, -, hAr⟩ := HIL6.out.at'.arr
             obtain ⟨ba, oa, cs, rfl, hba, ⟨rfl, hy64⟩, g1⟩ := hAr.at hy
             have y0 : w6.cell? ⟨ba, oa + j, none⟩ = some (.int .i64 y) := by simpa [show Rep.sz Int = 1 from rfl] using g1 0 Nat.zero_lt_one
             have hbl6 : ba < w6.heap.size := hba.elim False.elim And.right
             rw [HAL.out] at hvA
             subst hvA
             have HO6 := Lib.hid HIL6.out.drew.at'
             have HY64 := Lib.hid hy64
             have HY2 : Hid (Rep.cells (fun _ => False) w6.drew [.int .i64 y] (y : Int)) := ⟨rfl, HY64.out⟩
             have p0a : (w6.alloc (.cells #[.int .i64 y] 3)).cell? ⟨w.heap.size + 2, 0, none⟩ = some (.slice (some ⟨ba, oa, none⟩) k cA) := (HIL6.out.alloc _).cut.cell (j := 0) rfl
             have dj : decide ((j : Int) < 0) = false := decide_eq_false (by omega)
             have hjk' : (j : Int) < (k : Int) := by omega
             have hj0 : (0 : Int) ≤ (j : Int) := by omega
             clear hin
             have dm1 : ((j : Int) == -1) = false := by rw [beq_eq_false_iff_ne]; omega
             have hs6 : w.heap.size + 4 ≤ w6.drew.heap.size := HIL6.out.size
             clear hAr hba g1 hy hy64
             obtain ⟨C0, HCC⟩ : ∃ C0 : World → Prop, Hid (∀ W, C0 W ↔ (W.cell? ⟨w.heap.size + 2, 0, none⟩ = some (.slice (some ⟨ba, oa, none⟩) k cA) ∧ W.cell? ⟨ba, oa + j, none⟩ = some (.int .i64 y))) := ⟨_, fun _ => Iff.rfl⟩
             have HC0 : Hid (C0 w6.drew) := (HCC.out _).2 ⟨HIL6.out.drew.cut.cell (j := 0) rfl, y0⟩
             have HC1 : Hid (C0 (w6.drew.alloc (.cells #[.int .i64 y] 3))) := (HCC.out _).2 ⟨(HIL6.out.drew.alloc _).cut.cell (j := 0) rfl, (World.cell?_of_block (w := w6.drew) (Below.heap_alloc _ _ _ hbl6)).trans y0⟩
             go_upto_region 18 with fail
             have HNEC : Nonempty (HeldW C0) := ⟨⟨_, HC0.out⟩⟩
             refine wp_region_headC C0 12 13 20 (by kernel_rfl) (by kernel_rfl) (by kernel_rfl) (by kernel_rfl) HC0.out ?_
             simp only [List.take_succ_cons, List.take_zero, List.drop_succ_cons, List.drop_zero]
             have hd1 : ∀ d : HeldW C0, d.val.cell? ⟨w.heap.size + 2, 0, none⟩ = some (.slice (some ⟨ba, oa, none⟩) k cA) := fun d => ((HCC.out _).1 d.ok).1
             have hd2 : ∀ d : HeldW C0, d.val.cell? ⟨ba, oa + j, none⟩ = some (.int .i64 y) := fun d => ((HCC.out _).1 d.ok).2
             repeat (go_big_quiet_step (fail))
             refine wpQuiet_nil ?_
             clear hd1 hd2
             refine wpTail_one rfl fun RR HRR => ?_
             go_wp2_with fail
             refine AfterT.normal (HRR _ _ (isC HC1.out) ?_)
             clear HRR RR
             refine wpTail_zero ?_
             have hs7 : w6.drew.heap.size = w6.heap.size := rfl
             go_wp2_with (at_builtin; (with_reducible refine Tryd.wp_appd58 (S := fun _ => False) (v := .slice (some ⟨ba, oa, none⟩) k cA) (xs := atOf ts k) (y := y) (cs := [.int .i64 y]) (w0 := w6.drew) rfl rfl (by with_unfolding_all rfl) rfl rfl (by first | rfl | omega) HO6.out HY2.out (fun _ h => h.elim) (by have := HAL.out; omega) (by omega) fun v7 w7 hown7 hg7 hst7 => ?_); obtain ⟨va, ln, vc, rfl⟩ : ∃ va ln vc, v7 = .slice va ln vc := (by obtain ⟨a, c, h, -⟩ := hown7.arr; exact ⟨a, _, c, h⟩); have HN7 := Lib.hid (HIL6.out.drew.more hown7 hg7 hst7); have e0 := HN7.out.2.cell (j := 0) rfl; have e1 := HN7.out.2.frozen 0; have e2 := HN7.out.2.lt; clear hown7 hg7 hst7)
             all_goals refine NoPanic.normal ?_
             all_goals
              go_wp2_with fail
              go_roundw
             all_goals first
              | exact ⟨k + 1, _, _, by omega, by go_num, HTO.out, by rw [HAT.out, HOUT.out.1, HOUT.out.2]; exact HN7.out.1⟩
              | (simp [intOf]; omega)
          · as_aux_lemma =>
             have HF : Hid (cutG t ts = (zeroT, 3)) := by
              show _ = _
              have h1 : toOk ts (k + 1) = false := by
               rw [toOk_succ HOK.out HNN.out, Bool.and_eq_false_iff]
               simp only [decide_eq_false_iff_not]
               omega
              have h2 : toOk ts t.Ins.length = false := toOk_stop h1 (by rw [HLI.out]; omega)
              unfold cutG toRight
              rw [h2]
              simp
             have dm1 : (n == -1) = false := by simpa using hm1
             have HRS : Hid (Row w6 (w.heap.size + 1) 34 zeroTL.toArray) := HIL6.out.res
             have HBW : Hid (Below w.heap.size w w6) := HIL6.out.below
             rcases (show n < 0 ∨ (0 ≤ n ∧ (k : Int) ≤ n) by omega) with d | ⟨d, d2⟩
             all_goals
              clear hin
              go_wp2_with (with_reducible refine stT (OLD := zeroTL.toArray) (C := zeroTL.toArray) rfl rfl rfl rfl HRS.out rfl rfl HZO.out ?_)
              have HYB : Hid (Row (w6.setRow (w.heap.size + 1) zeroTL.toArray) (w.heap.size + 1) 34 zeroTL.toArray) := setRow_heap _ _ _ _ _ _ HRS.out
              (try simp only [Exit.inBlock, Exit.then])
              refine bodyPost_ret (results_cell_slot rfl _ _ _ _ _ _ _ rfl rfl HYB.out Tryd.underlying34 rfl rfl) rfl ⟨zeroTL, by rw [HF.out]; rfl, by rw [HF.out]; exact HZE.out _ _, below_setRow HBW.out (by omega) _⟩
   · as_aux_lemma =>
      obtain rfl : k = nT := by omega
      obtain ⟨vi, vin, vic, rfl, hvl⟩ : ∃ a n c, vI = .slice a n c ∧ n = (cutTo ts t.Ins k).length := (by obtain ⟨a, c, h, -⟩ := hil.ins.arr; exact ⟨a, _, c, h, rfl⟩)
      have hvn : vin = keptN ts k := by rw [hvl]; exact cutTo_len ts t.Ins k (by rw [HLI.out]; omega)
      have HVN := Lib.hid hvn
      have hvk := keptN_le ts k
      have HLV1 : Hid (lvOf t ts k = if 0 ≤ t.Loop ∧ t.Loop < k then (keptN ts t.Loop.toNat : Int) else 0) := rfl
      have HCL : Hid (cutLoop t ts = (keptN ts (min t.Loop.toNat k) : Int)) := by show _ = _; unfold cutLoop; rw [HLI.out]
      obtain ⟨t2, t3, t4, l1⟩ := HTC.out wr hil.box
      have o3 := hil.out.cell (j := 3) rfl
      have o2 := hil.out.cell (j := 2) rfl
      have o2f := hil.out.frozen 2
      have lo := hil.out.lt
      have hsz := hil.size
      clear hvl hvn hil hTA hTS hlt hok
      go_upto_if 114 with fail
      go_cut [] (fun W => IL T t w W vA (.slice vi vin vic) (atOf ts k) (cutTo ts t.Ins k) (if (k : Int) ≤ t.Loop then (vin : Int) else lvOf t ts k) (fineTo ts t.Ins k))
      case first =>
       as_aux_lemma =>
        by_cases hL : (k : Int) ≤ t.Loop
        · have d1 : decide ((k : Int) ≤ t.Loop) = true := decide_eq_true hL
          have HV1 : Hid ((if (k : Int) ≤ t.Loop then (vin : Int) else lvOf t ts k) = (vin : Int)) := if_pos hL
          clear hL
          go_wp2_with fail
          all_goals first
           | (exfalso; have hh := of_decide_eq_true d1; omega)
           | (go_meet; rw [HV1.out]; exact HIL.out.loop _)
        · have d1 : decide ((k : Int) ≤ t.Loop) = false := decide_eq_false hL
          have HV1 : Hid ((if (k : Int) ≤ t.Loop then (vin : Int) else lvOf t ts k) = lvOf t ts k) := if_neg hL
          clear hL
          go_wp2_with fail
          all_goals first
           | (exfalso; have hh := of_decide_eq_false d1; omega)
           | (go_meet; rw [HV1.out]; exact HIL.out)
      case rest =>
       have HIL1 := Lib.hid hcut
       obtain ⟨w1, hw1⟩ : ∃ w1 : World, w1 = wc := ⟨_, rfl⟩
       rw [← hw1] at HIL1 ⊢
       obtain ⟨lv1, hlv1⟩ : ∃ l, l = (if (k : Int) ≤ t.Loop then (vin : Int) else lvOf t ts k) := ⟨_, rfl⟩
       rw [← hlv1] at HIL1
       have HV1 := Lib.hid hlv1
       clear hcut hw1 hlv1 t2 t3 t4 l1 o2 o3 o2f lo
       obtain ⟨t2, t3, t4, l1⟩ := HTC.out w1 HIL1.out.box
       have o2 := HIL1.out.out.cell (j := 2) rfl
       have o2f := HIL1.out.out.frozen 2
       have lo := HIL1.out.out.lt
       go_upto_if 121 with fail
       go_cut [] (fun W => IL T t w W vA (.slice vi vin vic) (atOf ts k) (cutTo ts t.Ins k) (cutLoop t ts) (fineTo ts t.Ins k))
       case first =>
        as_aux_lemma =>
         by_cases hL : t.Loop ≤ 0
         · have d1 : decide (t.Loop ≤ 0) = true := decide_eq_true hL
           have HV2 : Hid (cutLoop t ts = 0) := by show _ = _; rw [HCL.out, show t.Loop.toNat = 0 by omega, Nat.zero_min]; rfl
           clear hL
           go_wp2_with fail
           all_goals first
            | (exfalso; have hh := of_decide_eq_true d1; omega)
            | (go_meet; rw [HV2.out]; exact HIL1.out.loop _)
         · have d1 : decide (t.Loop ≤ 0) = false := decide_eq_false hL
           have HV2 : Hid (cutLoop t ts = lv1) := by
            show _ = _
            rw [HCL.out, HV1.out]
            by_cases h2 : (k : Int) ≤ t.Loop
            · rw [if_pos h2, HVN.out, Nat.min_eq_right (by omega)]
            · rw [if_neg h2, HLV1.out, if_pos ⟨by omega, by omega⟩, Nat.min_eq_left (by omega)]
           clear hL
           go_wp2_with fail
           all_goals first
            | (exfalso; have hh := of_decide_eq_false d1; omega)
            | (go_meet; rw [HV2.out]; exact HIL1.out)
       case rest =>
        have HIL2 := Lib.hid hcut
        obtain ⟨w4, hw4⟩ : ∃ w4 : World, w4 = wc := ⟨_, rfl⟩
        rw [← hw4] at HIL2 ⊢
        clear hcut hw4 t2 t3 t4 l1 o2 o2f lo HIL1 HIL HV1 HLV1 HCL HVN hvk
        obtain ⟨aA, nA, cA, hvA, hnA⟩ : ∃ a n c, vA = .slice a n c ∧ (atOf ts k).length = n := (by obtain ⟨a, c, h, -⟩ := HIL2.out.at'.arr; exact ⟨a, _, c, h, rfl⟩)
        have HEL : Hid (EL T t w w4.heap.size aA nA cA (atOf ts k) (cutTo ts t.Ins k) (cutLoop t ts) (.slice vi vin vic) w4 (.slice none 0 0) [] (fineTo ts t.Ins k)) := HIL2.out.exits hvA hnA
        obtain ⟨t2, t3, t4, l1⟩ := HTC.out w4 HIL2.out.box
        have HNK : Hid (t.Ins.length = k) := HLI.out
        have HGO : Hid (gOf t ts = oneV (atOf ts k)) := by show _ = _; unfold gOf; rw [HLI.out]
        clear hvA hnA
        go_wp2_with fail
        clear t2 t3 t4 l1
        generalize hn1 : w4.heap.size = n1 at HEL
        clear hn1
        go_loopw [126] (fun i W => ∃ (q : Nat) (vE : Value), q ≤ nE ∧ i = .int .i64 q ∧ EL T t w n1 aA nA cA (atOf ts k) (cutTo ts t.Ins k) (cutLoop t ts) (.slice vi vin vic) W vE ((t.Exits.take q).map (cutExit (oneV (atOf ts k)))) (fineTo ts t.Ins k && (t.Exits.take q).all (fineExit (oneV (atOf ts k))))) (fun i _ => nE - (intOf i).toNat)
        case atStart => exact ⟨0, _, Nat.zero_le _, rfl, by simpa using HEL.out⟩
        case round =>
         obtain ⟨q, vE, hq, rfl, hel⟩ := hrel
         have HE1 := Lib.hid hel
         by_cases hlt : q < nE
         · as_aux_lemma =>
            obtain ⟨x, hx⟩ : ∃ x, t.Exits[q]? = some x := ⟨_, List.getElem?_eq_getElem (by rw [HLE.out]; exact hlt)⟩
            obtain ⟨hTA, -⟩ := HCE.out _ hel.below
            obtain ⟨bx, ox, a2, n2, c2, a3, n3, c3, rfl, hbx, s0, s1, s2, s3, hrx⟩ := texit_at hTA.exits hx
            have hbl := HS.out bx hbx
            have hsz := hel.size; have hfar := hel.far; have hwb := hel.below.size
            have HXX := Lib.hid hx
            have HXF : Hid (FewX x) := HFEW.out.each x (List.mem_of_getElem? hx)
            have HRX : Hid (∀ W, Below w.heap.size w W → Rep.cells S W [.int .i64 x.At, .int .i64 x.Steps, .slice a2 n2 c2, .slice a3 n3 c3] x) := fun W hb => Rep.keep (fun k hk => (hb.block k (HS.out k hk)).trans (hel.below.block k (HS.out k hk)).symm) hrx
            clear hx hbx hrx hTA hel
            go_upto_region 27 with fail
            generalize hW5 : wr.alloc (.cells #[.int .i64 x.At, .int .i64 x.Steps, .slice a2 n2 c2, .slice a3 n3 c3] 32) = w5
            have hel5 : EL T t w n1 aA nA cA (atOf ts k) (cutTo ts t.Ins k) (cutLoop t ts) (.slice vi vin vic) w5 vE ((t.Exits.take q).map (cutExit (oneV (atOf ts k)))) (fineTo ts t.Ins k && (t.Exits.take q).all (fineExit (oneV (atOf ts k)))) := by rw [← hW5]; exact HE1.out.alloc _
            have hrw := row_new wr #[.int .i64 x.At, .int .i64 x.Steps, .slice a2 n2 c2, .slice a3 n3 c3] 32
            rw [hW5] at hrw
            have hz5 : w5.heap.size = wr.heap.size + 1 := by rw [← hW5]; simp
            have HE5 := Lib.hid hel5
            have x0 := hrw.cell (j := 0) rfl; have x1 := hrw.cell (j := 1) rfl; have x2 := hrw.cell (j := 2) rfl; have x3 := hrw.cell (j := 3) rfl
            have lx := hrw.lt
            have q4 := hel5.out.cell (j := 4) rfl
            obtain ⟨y, hy⟩ : ∃ y, y = cutExit (oneV (atOf ts k)) x := ⟨_, rfl⟩
            have HY := Lib.hid hy
            have HC4 : Hid (Calls Tryd.prog 86 #[.pointer (some ⟨w.heap.size + 2, 0, none⟩), .agg #[.int .i64 x.At, .int .i64 x.Steps, .slice a2 n2 c2, .slice a3 n3 c3]] w5.drew fun e w6 => ∃ a2' n2' c2' a3' n3' c3', e = .returned (.agg #[.int .i64 y.At, .int .i64 y.Steps, .slice a2' n2' c2', .slice a3' n3' c3']) ∧
             Rep.cells (SB n1 w6 vE) w6 [.int .i64 y.At, .int .i64 y.Steps, .slice a2' n2' c2', .slice a3' n3' c3'] y ∧ EL T t w n1 aA nA cA (atOf ts k) (cutTo ts t.Ins k) (cutLoop t ts) (.slice vi vin vic) w6 vE ((t.Exits.take q).map (cutExit (oneV (atOf ts k)))) ((fineTo ts t.Ins k && (t.Exits.take q).all (fineExit (oneV (atOf ts k)))) && fineExit (oneV (atOf ts k)) x)) := by
             refine (HE5.out.drew.exit_any (by omega) (X := #[.int .i64 x.At, .int .i64 x.Steps, .slice a2 n2 c2, .slice a3 n3 c3]) (HRX.out _ HE5.out.drew.below) HS.out HXF.out hy).mono ?_
             rintro e w6 ⟨a2', n2', c2', a3', n3', c3', rfl, hr, hel6, hw⟩
             exact ⟨a2', n2', c2', a3', n3', c3', rfl, HE5.out.drew.ready hw.size hel6 hr, hel6⟩
            have HLL : Hid (((t.Exits.take q).map (cutExit (oneV (atOf ts k)))).length ≤ 100000) := by show _ ≤ _; simp; omega
            have HE : Hid (∀ args w, (callFunc 86 args).run Tryd.prog w = .ok (.enter 86 args) w) := Tryd.call86
            clear hW5 hel5 hrw hy s0 s1 s2 s3 HRX
            refine wp_region_noPanic ?_
            go_region_law (first
             | (refine step_call (f := 86) (vs := #[.pointer (some ⟨w.heap.size + 2, 0, none⟩), .agg #[.int .i64 x.At, .int .i64 x.Steps, .slice a2 n2 c2, .slice a3 n3 c3]]) rfl rfl (by simp [Act.eval, Act.put]) HE.out HC4.out fun e w6 hp => ?_
                obtain ⟨a2', n2', c2', a3', n3', c3', rfl, hr6, hel6⟩ := hp
                refine ⟨_, rfl, ?_⟩
                have HR6 := Lib.hid hr6
                have HE6 := Lib.hid hel6
                have HO6 := Lib.hid hel6.exits
                have hs6 := hel6.size
                have HSB : Hid (∀ j, SB n1 w6 vE j → j < w6.heap.size ∧ vE.ownBlock ≠ some j) := fun j hj => ⟨hj.2.1, hj.2.2⟩
                have q4b := hel6.out.cell (j := 4) rfl
                have q4c : (w6.alloc (.cells #[.int .i64 y.At, .int .i64 y.Steps, .slice a2' n2' c2', .slice a3' n3' c3'] 32)).cell? ⟨w.heap.size + 3, 4, none⟩ = some vE := (hel6.alloc _).out.cell (j := 4) rfl
                clear hr6 hel6)
             | (refine step_append1s (α := Api.TExit) (S := SB n1 w6 vE) (B := n1) (e := 32) (xs := (t.Exits.take q).map (cutExit (oneV (atOf ts k)))) (y := y) (cs := [.int .i64 y.At, .int .i64 y.Steps, .slice a2' n2' c2', .slice a3' n3' c3']) (w0 := w6) (e' := 32) rfl rfl Tryd.underlying28 Tryd.infoRep28 (by decide) (by decide) (by simp [Act.eval, Act.put]) (g := w6.heap.size) (by simp [Act.eval, Act.put]) rfl rfl HO6.out HR6.out HSB.out (by have := HLL.out; unfold maxLen; omega) (by have := HLL.out; omega) (by omega) ?_
                intro v9 w9 hown9 hg9 hst9
                obtain ⟨va, ln, vc, rfl⟩ : ∃ va ln vc, v9 = .slice va ln vc := (by obtain ⟨a, c, h, -⟩ := hown9.arr; exact ⟨a, _, c, h⟩)
                have HN9 := Lib.hid (HE6.out.more hown9 hg9 hst9)
                have HNX : Hid (EL T t w n1 aA nA cA (atOf ts k) (cutTo ts t.Ins k) (cutLoop t ts) (.slice vi vin vic) (w9.setCell ⟨w.heap.size + 3, 4, none⟩ (.slice va ln vc)) (.slice va ln vc) ((t.Exits.take (q + 1)).map (cutExit (oneV (atOf ts k)))) (fineTo ts t.Ins k && (t.Exits.take (q + 1)).all (fineExit (oneV (atOf ts k))))) := by
                 have h := HN9.out.1
                 rw [HY.out, Bool.and_assoc] at h
                 rw [map_take_succ HXX.out, show (t.Exits.take (q + 1)).all (fineExit (oneV (atOf ts k))) = ((t.Exits.take q).all (fineExit (oneV (atOf ts k))) && fineExit (oneV (atOf ts k)) x) by rw [List.take_add_one, HXX.out, List.all_append]; simp]
                 exact h
                have e0 := HN9.out.2.cell (j := 4) rfl
                have e1 := HN9.out.2.frozen 4
                have e2 := HN9.out.2.lt
                clear hown9 hg9 hst9))
            all_goals refine NoPanic.normal ?_
            all_goals
             go_wp2_with fail
             go_roundw
            all_goals first
             | exact ⟨q + 1, _, by omega, by go_num, HNX.out⟩
             | (simp [intOf]; omega)
         · as_aux_lemma =>
            have e : q = t.Exits.length := by rw [HLE.out]; omega
            obtain ⟨hTA, -⟩ := HCE.out _ hel.below
            have hle : (t.Exits.take q) = t.Exits := by rw [e]; exact List.take_length
            obtain ⟨b0, hb0⟩ : ∃ b, b = (fineTo ts t.Ins k && t.Exits.all (fineExit (oneV (atOf ts k)))) := ⟨_, rfl⟩
            obtain ⟨le, hleq⟩ : ∃ l, l = t.Exits.map (cutExit (oneV (atOf ts k))) := ⟨_, rfl⟩
            have HEL0 : Hid (EL T t w n1 aA nA cA (atOf ts k) (cutTo ts t.Ins k) (cutLoop t ts) (.slice vi vin vic) wr vE le b0) := by rw [hb0, hleq]; have := HE1.out; rwa [hle] at this
            have HB0 := Lib.hid hb0; have HLEQ := Lib.hid hleq
            have hsz := hel.size; have hfar := hel.far; have hwb := hel.below.size
            obtain ⟨x, hx⟩ : ∃ x, x = cutExit (oneV (atOf ts k)) t.Turn := ⟨_, rfl⟩
            obtain ⟨y, hy⟩ : ∃ y, y = cutExit (oneV (atOf ts k)) t.Back := ⟨_, rfl⟩
            have HXE := Lib.hid hx; have HYE := Lib.hid hy
            have HTR : Hid (∀ W, Below w.heap.size w W → Rep.cells S W [.int .i64 t.Turn.At, .int .i64 t.Turn.Steps, .slice a7 n7 c7, .slice a8 n8 c8] t.Turn ∧ Rep.cells S W [.int .i64 t.Back.At, .int .i64 t.Back.Steps, .slice b7 m7 d7, .slice b8 m8 d8] t.Back) := fun W hb => ⟨(HCE.out W hb).1.turn, (HCE.out W hb).1.back⟩
            have g1 := HFA.out.1; have g2 := HFA.out.2
            have g3 : I64 (cutLoop t ts) := by
             have h1 := keptN_le ts (min t.Loop.toNat t.Ins.length)
             have h2 := HLI.out
             unfold cutLoop I64
             omega
            have HCT : Hid (cutT t ts = ⟨t.Fn, t.At, cutLoop t ts, cutTo ts t.Ins k, le, x, y⟩) := by
             show _ = _
             unfold cutT
             rw [HGO.out, HNK.out, ← hleq, ← hx, ← hy]
            have HFT : Hid (fineT t ts = ((b0 && fineExit (oneV (atOf ts k)) t.Turn) && fineExit (oneV (atOf ts k)) t.Back)) := by
             show _ = _
             unfold fineT
             rw [HGO.out, HNK.out, hb0]
             simp only [Bool.and_assoc]
            have HDONE : Hid (∀ (W : World) (b : Bool) (u0 u1 u2 u3 v0 v1 v2 v3 : Value), EL T t w n1 aA nA cA (atOf ts k) (cutTo ts t.Ins k) (cutLoop t ts) (.slice vi vin vic) W vE le b → Rep.cells (fun j => n1 ≤ j ∧ j < W.heap.size) W [u0, u1, u2, u3] x → Rep.cells (fun j => n1 ≤ j ∧ j < W.heap.size) W [v0, v1, v2, v3] y → b = fineT t ts →
             EndAt w ((((((((W.setCell ⟨w.heap.size + 3, 5, none⟩ u0).setCell ⟨w.heap.size + 3, 6, none⟩ u1).setCell ⟨w.heap.size + 3, 7, none⟩ u2).setCell ⟨w.heap.size + 3, 8, none⟩ u3).setCell ⟨w.heap.size + 3, 9, none⟩ v0).setCell ⟨w.heap.size + 3, 10, none⟩ v1).setCell ⟨w.heap.size + 3, 11, none⟩ v2).setCell ⟨w.heap.size + 3, 12, none⟩ v3) (cutT t ts) (.slice aA nA cA) (fineT t ts)) := fun W b u0 u1 u2 u3 v0 v1 v2 v3 he hx hy hb => by
             rw [HCT.out, ← hb]
             refine he.done hx hy g1 g2 g3 ((((((((he.out.set 5 _).set 6 _).set 7 _).set 8 _).set 9 _).set 10 _).set 11 _).set 12 _) (fun j hj => ?_) (by simp only [size_setCell]) ?_
             · rw [blk_setCell_other _ _ _ hj, blk_setCell_other _ _ _ hj, blk_setCell_other _ _ _ hj, blk_setCell_other _ _ _ hj, blk_setCell_other _ _ _ hj, blk_setCell_other _ _ _ hj, blk_setCell_other _ _ _ hj, blk_setCell_other _ _ _ hj]
             · exact below_set (below_set (below_set (below_set (below_set (below_set (below_set (below_set he.below (by omega)) (by omega)) (by omega)) (by omega)) (by omega)) (by omega)) (by omega)) (by omega)
            have HXT : Hid (∀ (W : World) (b : Bool), EL T t w n1 aA nA cA (atOf ts k) (cutTo ts t.Ins k) (cutLoop t ts) (.slice vi vin vic) W vE le b → Calls Tryd.prog 86 #[.pointer (some ⟨w.heap.size + 2, 0, none⟩), .agg #[.int .i64 t.Turn.At, .int .i64 t.Turn.Steps, .slice a7 n7 c7, .slice a8 n8 c8]] W fun e w6 => ∃ a2' n2' c2' a3' n3' c3', e = .returned (.agg #[.int .i64 x.At, .int .i64 x.Steps, .slice a2' n2' c2', .slice a3' n3' c3']) ∧ Rep.cells (Fresh W w6) w6 [.int .i64 x.At, .int .i64 x.Steps, .slice a2' n2' c2', .slice a3' n3' c3'] x ∧ EL T t w n1 aA nA cA (atOf ts k) (cutTo ts t.Ins k) (cutLoop t ts) (.slice vi vin vic) w6 vE le (b && fineExit (oneV (atOf ts k)) t.Turn) ∧ Wr W.heap.size (w.heap.size + 2) W w6) := fun W b he => he.exit_any (by omega) (X := #[.int .i64 t.Turn.At, .int .i64 t.Turn.Steps, .slice a7 n7 c7, .slice a8 n8 c8]) (HTR.out W he.below).1 HS.out HFEW.out.turn hx
            have HXB : Hid (∀ (W : World) (b : Bool), EL T t w n1 aA nA cA (atOf ts k) (cutTo ts t.Ins k) (cutLoop t ts) (.slice vi vin vic) W vE le b → Calls Tryd.prog 86 #[.pointer (some ⟨w.heap.size + 2, 0, none⟩), .agg #[.int .i64 t.Back.At, .int .i64 t.Back.Steps, .slice b7 m7 d7, .slice b8 m8 d8]] W fun e w6 => ∃ a2' n2' c2' a3' n3' c3', e = .returned (.agg #[.int .i64 y.At, .int .i64 y.Steps, .slice a2' n2' c2', .slice a3' n3' c3']) ∧ Rep.cells (Fresh W w6) w6 [.int .i64 y.At, .int .i64 y.Steps, .slice a2' n2' c2', .slice a3' n3' c3'] y ∧ EL T t w n1 aA nA cA (atOf ts k) (cutTo ts t.Ins k) (cutLoop t ts) (.slice vi vin vic) w6 vE le (b && fineExit (oneV (atOf ts k)) t.Back) ∧ Wr W.heap.size (w.heap.size + 2) W w6) := fun W b he => he.exit_any (by omega) (X := #[.int .i64 t.Back.At, .int .i64 t.Back.Steps, .slice b7 m7 d7, .slice b8 m8 d8]) (HTR.out W he.below).2 HS.out HFEW.out.back hy
            have HKS : Hid (∀ W, Row W w.heap.size 34 T → W.cell? ⟨w.heap.size, 5, none⟩ = some (.int .i64 t.Turn.At) ∧ W.cell? ⟨w.heap.size, 6, none⟩ = some (.int .i64 t.Turn.Steps) ∧ W.cell? ⟨w.heap.size, 7, none⟩ = some (.slice a7 n7 c7) ∧ W.cell? ⟨w.heap.size, 8, none⟩ = some (.slice a8 n8 c8) ∧ W.cell? ⟨w.heap.size, 9, none⟩ = some (.int .i64 t.Back.At) ∧ W.cell? ⟨w.heap.size, 10, none⟩ = some (.int .i64 t.Back.Steps) ∧ W.cell? ⟨w.heap.size, 11, none⟩ = some (.slice b7 m7 d7) ∧ W.cell? ⟨w.heap.size, 12, none⟩ = some (.slice b8 m8 d8)) := fun W h => ⟨h.cell (j := 5) (by rw [HTE.out]; rfl), h.cell (j := 6) (by rw [HTE.out]; rfl), h.cell (j := 7) (by rw [HTE.out]; rfl), h.cell (j := 8) (by rw [HTE.out]; rfl), h.cell (j := 9) (by rw [HTE.out]; rfl), h.cell (j := 10) (by rw [HTE.out]; rfl), h.cell (j := 11) (by rw [HTE.out]; rfl), h.cell (j := 12) (by rw [HTE.out]; rfl)⟩
            have HWX : Hid (∀ (W W2 : World) (cs : List Value) (z : Api.TExit) (B : Nat), n1 ≤ B → Rep.cells (fun j => B ≤ j ∧ j < W.heap.size) W cs z → Wr W.heap.size (w.heap.size + 2) W W2 → Rep.cells (fun j => n1 ≤ j ∧ j < W2.heap.size) W2 cs z) := fun W W2 cs z B hB hr hw =>
             Rep.mono (fun j hj => ⟨by have := hj.1; omega, by have := hj.2; have := hw.size; omega⟩) (Rep.keep (fun j hj => hw.block j hj.2 (by have := hj.1; omega)) hr)
            have HXB2 : Hid (∀ (w6 : World) (r2 : Option Addr) (r2n r2c : Nat) (r3 : Option Addr) (r3n r3c : Nat), EL T t w n1 aA nA cA (atOf ts k) (cutTo ts t.Ins k) (cutLoop t ts) (.slice vi vin vic) w6 vE le (b0 && fineExit (oneV (atOf ts k)) t.Turn) → Rep.cells (Fresh wr.drew w6) w6 [.int .i64 x.At, .int .i64 x.Steps, .slice r2 r2n r2c, .slice r3 r3n r3c] x →
             Calls Tryd.prog 86 #[.pointer (some ⟨w.heap.size + 2, 0, none⟩), .agg #[.int .i64 t.Back.At, .int .i64 t.Back.Steps, .slice b7 m7 d7, .slice b8 m8 d8]] w6 fun e w7 => ∃ q2 q2n q2c q3 q3n q3c, e = .returned (.agg #[.int .i64 y.At, .int .i64 y.Steps, .slice q2 q2n q2c, .slice q3 q3n q3c]) ∧ (∃ b, EL T t w n1 aA nA cA (atOf ts k) (cutTo ts t.Ins k) (cutLoop t ts) (.slice vi vin vic) w7 vE le b) ∧ EndAt w ((((((((w7.setCell ⟨w.heap.size + 3, 5, none⟩ (.int .i64 x.At)).setCell ⟨w.heap.size + 3, 6, none⟩ (.int .i64 x.Steps)).setCell ⟨w.heap.size + 3, 7, none⟩ (.slice r2 r2n r2c)).setCell ⟨w.heap.size + 3, 8, none⟩ (.slice r3 r3n r3c)).setCell ⟨w.heap.size + 3, 9, none⟩ (.int .i64 y.At)).setCell ⟨w.heap.size + 3, 10, none⟩ (.int .i64 y.Steps)).setCell ⟨w.heap.size + 3, 11, none⟩ (.slice q2 q2n q2c)).setCell ⟨w.heap.size + 3, 12, none⟩ (.slice q3 q3n q3c)) (cutT t ts) (.slice aA nA cA) (fineT t ts)) := fun w6 r2 r2n r2c r3 r3n r3c he hr => by
             refine (HXB.out w6 _ he).mono ?_
             rintro e w7 ⟨q2, q2n, q2c, q3, q3n, q3c, rfl, hr7, hel7, hw7⟩
             have hz6 := he.size
             exact ⟨q2, q2n, q2c, q3, q3n, q3c, rfl, ⟨_, hel7⟩, HDONE.out w7 _ _ _ _ _ _ _ _ _ hel7 (HWX.out w6 w7 _ _ wr.heap.size hsz hr hw7) (Rep.mono (fun j hj => ⟨Nat.le_trans hz6 hj.1, hj.2⟩) hr7) HFT.out.symm⟩
            have HXT2 : Hid (∀ (w6 : World) (r2 : Option Addr) (r2n r2c : Nat) (r3 : Option Addr) (r3n r3c : Nat), EL T t w n1 aA nA cA (atOf ts k) (cutTo ts t.Ins k) (cutLoop t ts) (.slice vi vin vic) w6 vE le (b0 && fineExit (oneV (atOf ts k)) t.Back) → Rep.cells (Fresh wr.drew w6) w6 [.int .i64 y.At, .int .i64 y.Steps, .slice r2 r2n r2c, .slice r3 r3n r3c] y →
             Calls Tryd.prog 86 #[.pointer (some ⟨w.heap.size + 2, 0, none⟩), .agg #[.int .i64 t.Turn.At, .int .i64 t.Turn.Steps, .slice a7 n7 c7, .slice a8 n8 c8]] w6 fun e w7 => ∃ q2 q2n q2c q3 q3n q3c, e = .returned (.agg #[.int .i64 x.At, .int .i64 x.Steps, .slice q2 q2n q2c, .slice q3 q3n q3c]) ∧ (∃ b, EL T t w n1 aA nA cA (atOf ts k) (cutTo ts t.Ins k) (cutLoop t ts) (.slice vi vin vic) w7 vE le b) ∧ EndAt w ((((((((w7.setCell ⟨w.heap.size + 3, 5, none⟩ (.int .i64 x.At)).setCell ⟨w.heap.size + 3, 6, none⟩ (.int .i64 x.Steps)).setCell ⟨w.heap.size + 3, 7, none⟩ (.slice q2 q2n q2c)).setCell ⟨w.heap.size + 3, 8, none⟩ (.slice q3 q3n q3c)).setCell ⟨w.heap.size + 3, 9, none⟩ (.int .i64 y.At)).setCell ⟨w.heap.size + 3, 10, none⟩ (.int .i64 y.Steps)).setCell ⟨w.heap.size + 3, 11, none⟩ (.slice r2 r2n r2c)).setCell ⟨w.heap.size + 3, 12, none⟩ (.slice r3 r3n r3c)) (cutT t ts) (.slice aA nA cA) (fineT t ts)) := fun w6 r2 r2n r2c r3 r3n r3c he hr => by
             refine (HXT.out w6 _ he).mono ?_
             rintro e w7 ⟨q2, q2n, q2c, q3, q3n, q3c, rfl, hr7, hel7, hw7⟩
             have hz6 := he.size
             exact ⟨q2, q2n, q2c, q3, q3n, q3c, rfl, ⟨_, hel7⟩, HDONE.out w7 _ _ _ _ _ _ _ _ _ hel7 (Rep.mono (fun j hj => ⟨Nat.le_trans hz6 hj.1, hj.2⟩) hr7) (HWX.out w6 w7 _ _ wr.heap.size hsz hr hw7) (by rw [HFT.out, Bool.and_right_comm])⟩
            have HNE3 : Hid (w.heap.size ≠ w.heap.size + 3) := by show _ ≠ _; omega
            have HBX0 : Hid (Row wr.drew w.heap.size 34 T) := HEL0.out.drew.box
            have HXT1 := Lib.hid (HXT.out _ _ HEL0.out.drew)
            have HXB1 := Lib.hid (HXB.out _ _ HEL0.out.drew)
            obtain ⟨p5, p6, p7, p8, p9, p10, p11, p12⟩ := HKS.out wr HEL0.out.box
            have lb := HEL0.out.box.lt
            have t4 : wr.cell? ⟨w.heap.size, 4, none⟩ = some (.slice aE nE cE) := HEL0.out.box.cell (by rw [HTE.out]; rfl)
            clear hTA hle hb0 hleq hx hy hel e
            go_upto_region 29 with fail
            go_cut [] (fun W => EndAt w W (cutT t ts) (.slice aA nA cA) (fineT t ts))
            case first =>
             as_aux_lemma =>
              obtain ⟨C0, HCC⟩ : ∃ C0 : World → Prop, Hid (∀ W, C0 W ↔ Row W w.heap.size 34 T) := ⟨_, fun _ => Iff.rfl⟩
              have HC0 : Hid (C0 wr.drew) := (HCC.out _).2 HBX0.out
              have HNEC : Nonempty (HeldW C0) := ⟨⟨_, HC0.out⟩⟩
              refine wp_region_plan C0 [(true, 0), (true, 1), (true, 2), (true, 4), (true, 5), (true, 6), (false, 3), (true, 8), (false, 7)] 9 20 (by kernel_rfl) (by kernel_rfl) (by kernel_rfl) (by kernel_rfl) HC0.out ?_
              simp only [List.drop_succ_cons, List.drop_zero]
              have hd0 : ∀ d : HeldW C0, d.val.cell? ⟨w.heap.size, 5, none⟩ = some (.int .i64 t.Turn.At) := fun d => (HKS.out _ ((HCC.out _).1 d.ok)).1
              have hd1 : ∀ d : HeldW C0, d.val.cell? ⟨w.heap.size, 6, none⟩ = some (.int .i64 t.Turn.Steps) := fun d => (HKS.out _ ((HCC.out _).1 d.ok)).2.1
              have hd2 : ∀ d : HeldW C0, d.val.cell? ⟨w.heap.size, 7, none⟩ = some (.slice a7 n7 c7) := fun d => (HKS.out _ ((HCC.out _).1 d.ok)).2.2.1
              have hd3 : ∀ d : HeldW C0, d.val.cell? ⟨w.heap.size, 8, none⟩ = some (.slice a8 n8 c8) := fun d => (HKS.out _ ((HCC.out _).1 d.ok)).2.2.2.1
              have hd4 : ∀ d : HeldW C0, d.val.cell? ⟨w.heap.size, 9, none⟩ = some (.int .i64 t.Back.At) := fun d => (HKS.out _ ((HCC.out _).1 d.ok)).2.2.2.2.1
              have hd5 : ∀ d : HeldW C0, d.val.cell? ⟨w.heap.size, 10, none⟩ = some (.int .i64 t.Back.Steps) := fun d => (HKS.out _ ((HCC.out _).1 d.ok)).2.2.2.2.2.1
              have hd6 : ∀ d : HeldW C0, d.val.cell? ⟨w.heap.size, 11, none⟩ = some (.slice b7 m7 d7) := fun d => (HKS.out _ ((HCC.out _).1 d.ok)).2.2.2.2.2.2.1
              have hd7 : ∀ d : HeldW C0, d.val.cell? ⟨w.heap.size, 12, none⟩ = some (.slice b8 m8 d8) := fun d => (HKS.out _ ((HCC.out _).1 d.ok)).2.2.2.2.2.2.2
              have hdl : ∀ d : HeldW C0, w.heap.size < d.val.heap.size := fun d => ((HCC.out _).1 d.ok).lt
              refine plan_quiet (by repeat (first | with_reducible exact nth_zero | with_reducible apply nth_succ)) ?_
              go_big_quiet_step (fail)
              refine wpQuiet_nil ?_
              refine plan_quiet (by repeat (first | with_reducible exact nth_zero | with_reducible apply nth_succ)) ?_
              go_big_quiet_step (fail)
              refine wpQuiet_nil ?_
              refine plan_quiet (by repeat (first | with_reducible exact nth_zero | with_reducible apply nth_succ)) ?_
              go_big_quiet_step (fail)
              refine wpQuiet_nil ?_
              refine plan_quiet (by repeat (first | with_reducible exact nth_zero | with_reducible apply nth_succ)) ?_
              go_big_quiet_step (fail)
              refine wpQuiet_nil ?_
              refine plan_quiet (by repeat (first | with_reducible exact nth_zero | with_reducible apply nth_succ)) ?_
              go_big_quiet_step (fail)
              refine wpQuiet_nil ?_
              refine plan_quiet (by repeat (first | with_reducible exact nth_zero | with_reducible apply nth_succ)) ?_
              go_big_quiet_step (fail)
              refine wpQuiet_nil ?_
              refine plan_op (by repeat (first | with_reducible exact nth_zero | with_reducible apply nth_succ)) (by rfl) fun RR HRR => ?_
              go_wp2_with (go_at_call 86; refine HXT1.out.mono ?_; rintro e w6 ⟨r2, r2n, r2c, r3, r3n, r3c, rfl, hr6, hel6, hw6⟩; have HET6 := Lib.hid hel6; have HRT6 := Lib.hid hr6; clear hr6 hel6 hw6)
              have HC6 : Hid (C0 w6) := (HCC.out _).2 HET6.out.box
              refine AfterT.normal (HRR _ _ (isC HC6.out) ?_)
              clear HRR RR
              refine plan_quiet (by repeat (first | with_reducible exact nth_zero | with_reducible apply nth_succ)) ?_
              go_big_quiet_step (fail)
              refine wpQuiet_nil ?_
              refine plan_op (by repeat (first | with_reducible exact nth_zero | with_reducible apply nth_succ)) (by rfl) fun RR HRR => ?_
              go_wp2_with (go_at_call 86; refine (HXB2.out _ _ _ _ _ _ _ HET6.out HRT6.out).mono ?_; rintro e w7 ⟨q2, q2n, q2c, q3, q3n, q3c, rfl, ⟨b7', hel7⟩, hfn⟩; have HE7 := Lib.hid hel7; have HFN := Lib.hid hfn; clear hfn hel7)
              have HC7 : Hid (C0 w7) := (HCC.out _).2 HE7.out.box
              refine AfterT.normal (HRR _ _ (isC HC7.out) ?_)
              clear HRR RR
              refine plan_done ?_
              clear hd0 hd1 hd2 hd3 hd4 hd5 hd6 hd7 hdl
              obtain ⟨W1, hW1⟩ : ∃ W1, W1 = (((w7.setCell ⟨w.heap.size + 3, 5, none⟩ (.int .i64 x.At)).setCell ⟨w.heap.size + 3, 6, none⟩ (.int .i64 x.Steps)).setCell ⟨w.heap.size + 3, 7, none⟩ (.slice r2 r2n r2c)).setCell ⟨w.heap.size + 3, 8, none⟩ (.slice r3 r3n r3c) := ⟨_, rfl⟩
              have HST := Lib.hid (two_stores HE7.out.out rfl (p' := y.At) (q' := y.Steps) (b2 := q2) (m2 := q2n) (d2 := q2c) (b3 := q3) (m3 := q3n) (d3 := q3c) hW1)
              have HW1 := Lib.hid hW1
              clear hW1
              refine list_store rfl rfl (by simp [Act.eval]) (by simp [Act.eval]) HST.out.1 ?_
              simp only [Act.put]
              go_wp2_with (with_reducible refine list_store rfl rfl ?hx ?hy HST.out.2 ?hn; (case hx => simp [Act.eval]); (case hy => simp [Act.eval]); simp only [Act.put])
              all_goals refine NoPanic.normal ?_
              all_goals go_wp2_with fail
              all_goals go_meet
              all_goals (rw [HW1.out]; exact HFN.out)
            case rest =>
             have HEND := Lib.hid hcut
             obtain ⟨wz, hwz⟩ : ∃ wz : World, wz = wc := ⟨_, rfl⟩
             rw [← hwz] at HEND ⊢
             clear hcut hwz p5 p6 p7 p8 p9 p10 p11 p12 lb t4
             obtain ⟨C, hC1, hC2⟩ := HEND.out.out
             have HC1 := Lib.hid hC1; have HC2 := Lib.hid hC2
             have c1 := HEND.out.cut.cell (j := 1) rfl
             have lc := HEND.out.cut.lt
             have hsC : C.size = 13 := rep_size hC2
             have HCO : Hid (C.all (·.oneCell') = true) := by
              show _ = _
              rw [Array.all_eq_true_iff_forall_mem]
              exact fun v hv => Rep.one hC2 v (by simpa using hv)
             have HTOK : Hid (toRight t ts = true) := by
              show _ = _
              unfold toRight
              rw [HN.out, HLI.out, HOK.out]
              simp
             clear hC1 hC2
             cases hft : fineT t ts with
             | false =>
               rw [hft] at c1
               have HF : Hid (cutG t ts = (zeroT, 3)) := by show _ = _; unfold cutG; rw [hft, HTOK.out]; rfl
               go_wp2_with (with_reducible refine stT (OLD := zeroTL.toArray) (C := zeroTL.toArray) rfl rfl rfl rfl HEND.out.res rfl rfl HZO.out ?_)
               have HYB : Hid (Row (wz.setRow (w.heap.size + 1) zeroTL.toArray) (w.heap.size + 1) 34 zeroTL.toArray) := setRow_heap _ _ _ _ _ _ HEND.out.res
               (try simp only [Exit.inBlock, Exit.then])
               refine bodyPost_ret (results_cell_slot rfl _ _ _ _ _ _ _ rfl rfl HYB.out Tryd.underlying34 rfl rfl) rfl ⟨zeroTL, by rw [HF.out]; rfl, by rw [HF.out]; exact HZE.out _ _, below_setRow HEND.out.below (by omega) _⟩
             | true =>
               rw [hft] at c1
               have HF : Hid (cutG t ts = (cutT t ts, 0)) := by show _ = _; unfold cutG; rw [hft, HTOK.out]; rfl
               go_wp2_with (first
                | (with_reducible refine ldT rfl rfl rfl HC1.out hsC ?_)
                | (with_reducible refine stT (OLD := zeroTL.toArray) (C := C) rfl rfl rfl rfl HEND.out.res hsC rfl HCO.out ?_))
               have HYB : Hid (Row (wz.setRow (w.heap.size + 1) C) (w.heap.size + 1) 34 C) := setRow_heap _ _ _ _ _ _ HEND.out.res
               (try simp only [Exit.inBlock, Exit.then])
               refine bodyPost_ret (results_cell_slot rfl _ _ _ _ _ _ _ rfl rfl HYB.out Tryd.underlying34 rfl (infoT hsC)) rfl ⟨C.toList, by rw [HF.out]; simp, ?_, below_setRow HEND.out.below (by omega) _⟩
               rw [HF.out]
               have hss : (wz.setRow (w.heap.size + 1) C).heap.size = wz.heap.size := by simp [World.setRow]
               exact Rep.mono (fun j hj => ⟨by have := hj.1; omega, by show j < (wz.setRow (w.heap.size + 1) C).heap.size; rw [hss]; exact hj.2⟩) (Rep.keep (fun j hj => setRow_other _ _ _ _ (by have := hj.1; omega)) HC2.out)
end Go.Proofs.YtekofpigmggbbaaDoor.cut
