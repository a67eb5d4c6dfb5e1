/- cse.Do: walked. -/
import Derived.Test.YtekofpigmggbbaaDoorCseA
import Derived.Test.YtekofpigmggbbaaDoorCsePlainB
import Derived.Test.YtekofpigmggbbaaDoorPass
import Derived.Test.YtekofpigmggbbaaDoorMap
import Derived.StillTailTactics
set_option linter.unusedVariables false
set_option linter.unusedSimpArgs false
namespace Go.Proofs.YtekofpigmggbbaaDoor.cse
open Go.Bk Go.RowKit Go.Maps Go.Proofs.YtekofpigmggbbaaDoor.ir Go.Proofs.YtekofpigmggbbaaDoor.chk Go.Proofs.YtekofpigmggbbaaDoor.cut Go.Proofs.YtekofpigmggbbaaDoor.pas
attribute [local go_sem ↓] Go.wp_at_zero Go.wp_at_succ

/-! Keys of the map. -/
theorem laidOut : laidOutB Tryd.prog = true := by kernel_rfl
theorem types_size : (Tryd.prog.types.size == 0) = false := by kernel_rfl
theorem types_size2 : (Tryd.prog.types.size == 1) = false := by kernel_rfl
def keyGood (q : Key) : Prop := I64 q.op ∧ I64 q.n ∧ I64 q.a ∧ I64 q.b ∧ I64 q.k.Kind ∧ I64 q.k.N
theorem key_reads (q : Key) (h : keyGood q) : Go.keyOf Tryd.prog 76 (.agg (keyC q)) = some (.string (keyBytes [.int .i64 q.op, .int .i64 q.n, .int .i64 q.a, .int .i64 q.b, .bool q.ahead, .int .i64 q.k.Kind, .int .i64 q.k.N])) := by
  obtain ⟨h1, h2, h3, h4, h5, h6⟩ := h
  have hk : Tryd.prog.keyType 76 = true := by kernel_rfl
  have hf : (Value.agg (keyC q)).formed Tryd.prog 76 = true := by
    unfold Value.formed
    rw [Tryd.underlying76]
    simp [keyC]
    kernel_rfl
  unfold Go.keyOf
  rw [Tryd.underlying76]
  simp only [hk, hf, Bool.and_self, if_true]
  obtain ⟨n, hn⟩ : ∃ n, Tryd.prog.types.size = n + 1 + 1 := by
    have := types_size
    have h2 := types_size2
    cases h : Tryd.prog.types.size with
    | zero => rw [h] at this; cases this
    | succ n =>
      cases n with
      | zero => rw [h] at h2; cases h2
      | succ n => exact ⟨n, rfl⟩
  rw [hn]
  have g1 : Tryd.prog.cellsOf 76 = 7 := by kernel_rfl
  have g2 : Tryd.prog.cellsOf 3 = 1 := by kernel_rfl
  have g3 : Tryd.prog.cellsOf 4 = 1 := by kernel_rfl
  have g4 : Tryd.prog.cellsOf 41 = 2 := by kernel_rfl
  simp [Program.keyLits, Tryd.underlying76, Tryd.underlying3, Tryd.underlying4, Tryd.underlying41, g1, g2, g3, g4, h1.wf, h2.wf, h3.wf, h4.wf, h5.wf, h6.wf, Value.cells, keyC]
  rw [if_pos (by decide)]
  simp [h2.wf, h3.wf, h4.wf, h5.wf, h6.wf]
def csKey : KeyT Tryd.prog 76 Key where
  val q := .agg (keyC q)
  lit q := .string (keyBytes [.int .i64 q.op, .int .i64 q.n, .int .i64 q.a, .int .i64 q.b, .bool q.ahead, .int .i64 q.k.Kind, .int .i64 q.k.N])
  good := keyGood
  keyed := Keyed.of_law (deep_law_gate laidOut (of_decide_eq_true (by kernel_rfl)) (of_decide_eq_true (by kernel_rfl)) (by kernel_rfl) (by kernel_rfl))
  reads := key_reads
  inj q q' h := by
    obtain ⟨a, b, c, d, e, ⟨f, g⟩⟩ := q
    obtain ⟨a', b', c', d', e', ⟨f', g'⟩⟩ := q'
    simp [keyC] at h
    obtain ⟨rfl, rfl, rfl, rfl, rfl, rfl, rfl⟩ := h
    rfl
theorem csKey_val (q : Key) : Value.agg (keyC q) = csKey.val q := rfl
theorem zero_int (w : World) : (zeroValue 3).run Tryd.prog w = .ok (.int .i64 0) w := by kernel_rfl
theorem key_good {x : Api.TIns} {b : Bool} {q : Key} (h : keyOf x b = some q) (h0 : I64 x.Op) (hA : I64 x.A) (hB : I64 x.B) (hN : I64 x.N) (h5 : I64 x.K.Kind) (h6 : I64 x.K.N) : keyGood q := by
  have z : I64 0 := by unfold I64; omega
  have m1 : I64 (min x.A x.B) := by unfold I64 at *; omega
  have m2 : I64 (max x.A x.B) := by unfold I64 at *; omega
  have v1 : I64 1 := by unfold I64; omega
  have v2 : I64 2 := by unfold I64; omega
  have v3 : I64 3 := by unfold I64; omega
  have v7 : I64 7 := by unfold I64; omega
  have v8 : I64 8 := by unfold I64; omega
  unfold keyOf at h
  repeat' (first | (split at h) | (cases h))
  all_goals (refine ⟨?_, ?_, ?_, ?_, ?_, ?_⟩ <;> first | assumption | (split <;> assumption))
/-- A box of an instruction, laid anew. -/
theorem stIx {ops : Array Oper} {Q : Exit → Act → World → Prop} {a : Act} {o : Oper} {w : World} {rest : List Oper} {x y : Operand} {g : Nat} {q : Api.TIns} {OLD : Array Value} (hgd : o.guard = none) (ho : o.op = .store 43 x y) (hx : a.eval x = .pointer (some ⟨g, 0, none⟩)) (hy : a.eval y = .agg #[.int .i64 q.Op, .int .i64 q.A, .int .i64 q.B, .int .i64 q.C, .int .i64 q.N, .int .i64 q.Exit, .int .i64 q.K.Kind, .int .i64 q.K.N]) (hg : Row w g 43 OLD) (hs' : OLD.size = 8)
    (h : wpList Tryd.prog ops Q rest (a.put o.dst undef) (w.setRow g #[.int .i64 q.Op, .int .i64 q.A, .int .i64 q.B, .int .i64 q.C, .int .i64 q.N, .int .i64 q.Exit, .int .i64 q.K.Kind, .int .i64 q.K.N])) : wpList Tryd.prog ops Q (o :: rest) a w :=
  wpList_store_row hgd 43 x y ho g #[.int .i64 q.Op, .int .i64 q.A, .int .i64 q.B, .int .i64 q.C, .int .i64 q.N, .int .i64 q.Exit, .int .i64 q.K.Kind, .int .i64 q.K.N] hx hy _ OLD hg (infoI rfl) (by rw [hs']; rfl) (insL_one q) h
/-- Numbers in the making are kept by what writes no block ahead of N. -/
theorem nl_low {S : Nat → Prop} {w W W' : World} {T : Array Value} {t : Api.TTrace} {gm N : Nat} {l : List Int} (h : NL S w T t gm l W) (hb : Below N W W') (hN : gm < N) : NL S w T t gm l W' := by
  have hf := h.far
  have hd : ∀ b, S b → b < N := fun b hb' => by have := h.dom b hb'; omega
  exact ⟨h.rt.keep (hb.block _ (by omega)), h.res.keep (hb.block _ (by omega)), h.nums.keep (hb.block _ hN), Rep.keep (fun b hb' => hb.block b (hd b hb')) h.ret, h.dom, h.below.trans (hb.mono (by omega)), hf⟩
theorem nl_grown {S : Nat → Prop} {w W W' : World} {T : Array Value} {t : Api.TTrace} {gm g : Nat} {l : List Int} (h : NL S w T t gm l W) (hg : W.grownBy W' (some g)) (hn : w.heap.size + 3 ≤ g) (hne : gm ≠ g) : NL S w T t gm l W' := by
  have hf := h.far
  have k : ∀ b, b < W.heap.size → b ≠ g → W'.heap[b]? = W.heap[b]? := fun b h1 h2 => hg.block b h1 (fun e => h2 (Option.some.inj e))
  have hd : ∀ b, S b → b < W.heap.size := fun b hb' => Nat.lt_of_lt_of_le (h.dom b hb') h.below.size
  exact ⟨h.rt.keep (k _ h.rt.lt (by omega)), h.res.keep (k _ h.res.lt (by omega)), h.nums.keep (k _ h.nums.lt hne), Rep.keep (fun b hb' => k b (hd b hb') (by have := h.dom b hb'; omega)) h.ret, h.dom, h.below.grown hg h.below.size (fun r hr => by have := Option.some.inj hr; omega), hf⟩
/-- The state of the code's loop. -/
structure CS (S : Nat → Prop) (w : World) (T : Array Value) (t : Api.TTrace) (gs gm n k : Nat) (l : List Int) (W : World) : Prop where
  nl : NL S w T t gm l W
  map : GMap csKey W gs k (seenF t k)
  far : w.heap.size + 3 ≤ gs
  ne : gs ≠ gm
theorem CS.low {S : Nat → Prop} {w W W' : World} {T : Array Value} {t : Api.TTrace} {gs gm n k N : Nat} {l : List Int} (h : CS S w T t gs gm n k l W) (hb : Below N W W') (h1 : gm < N) (h2 : gs < N) : CS S w T t gs gm n k l W' :=
  ⟨nl_low h.nl hb h1, h.map.block (hb.block _ h2), h.far, h.ne⟩
theorem CS.set {S : Nat → Prop} {w W : World} {T : Array Value} {t : Api.TTrace} {gs gm n k : Nat} {l : List Int} (h : CS S w T t gs gm n k l W) (j : Nat) (v : Int) : CS S w T t gs gm n k (l.set j v) (W.setCell ⟨gm, j, none⟩ (.int .i64 v)) :=
  ⟨h.nl.set j v, h.map.block (Go.Bk.blk_setCell_other _ _ _ h.ne), h.far, h.ne⟩
theorem putI_fields (ts : List Int) (x : Api.TIns) : (putI ts x).N = x.N ∧ (putI ts x).K = x.K ∧ (putI ts x).Exit = x.Exit := ⟨rfl, rfl, rfl⟩
theorem cse_right {t : Api.TTrace} : toRight t (cseTo t) = true := by
  unfold toRight
  rw [cseTo_len, cseTo_ok]
  simp
theorem cse_i64 {t : Api.TTrace} (h : t.Ins.length ≤ 300) : ∀ z ∈ cseTo t, I64 z := by
  intro z hz
  obtain ⟨j, hj⟩ := List.getElem?_of_mem hz
  have hl := (List.getElem?_eq_some_iff.1 hj).1
  rw [cseTo_len] at hl
  rw [cseTo_at t hl] at hj
  have h1 := Option.some.inj hj
  have := stepAt_ge t j
  unfold I64
  omega
theorem cseL_i64 {t : Api.TTrace} {n k : Nat} (h : n ≤ 300) : ∀ z ∈ cseL t n k, I64 z := by
  intro z hz
  simp only [cseL, List.mem_map, List.mem_range] at hz
  obtain ⟨j, hj, rfl⟩ := hz
  have := stepAt_ge t j
  split <;> unfold I64 <;> omega
theorem forV_i64 {ts : List Int} (h : ∀ z ∈ ts, I64 z) (v : Int) : I64 (forV ts v) := by
  unfold forV
  cases e : ts[v.toNat]? with
  | none => show I64 0; unfold I64; omega
  | some z => exact h z (List.mem_of_getElem? e)
theorem rows3z (w : World) (o1 o2 o3 : Array Value) (t1 t2 t3 : TypeId) (W : World) (hW : W = ((w.alloc (.cells o1 t1)).alloc (.cells o2 t2)).alloc (.cells o3 t3)) : W.heap.size = w.heap.size + 3 := by rw [hW]; simp
def ptrL (gx : Nat) : List Value := [.pointer (some ⟨gx, 1, none⟩), .pointer (some ⟨gx, 2, none⟩), .pointer (some ⟨gx, 3, none⟩)]
set_option maxRecDepth 100000 in
set_option maxHeartbeats 8000000 in
theorem cdo_any {S : Nat → Prop} {w : World} {P T : Array Value} {p : Api.Prog} {t : Api.TTrace} (hp : Rep.cells S w P.toList p) (ht : Rep.cells S w T.toList t) (hS : ∀ b, S b → b < w.heap.size) (hA : cod.Asc w) :
    Calls Tryd.prog 14 #[.agg P, .agg T] w (PassOut w (doG p t (cseTo t))) := by
  obtain ⟨a0, nF, c0, hP⟩ := pin_of hp
  obtain ⟨aI, nI, cI, hT⟩ := tin_of ht
  have hsP := hP.size
  have hsT := hT.size
  have hI9 := hT.few
  obtain ⟨w1, hw1⟩ : ∃ w1, w1 = ((w.alloc (.cells P 26)).alloc (.cells T 34)).alloc (.cells #[.int .i64 0, .int .i64 0, .int .i64 0, .slice none 0 0, .slice none 0 0, .int .i64 0, .int .i64 0, .slice none 0 0, .slice none 0 0, .int .i64 0, .int .i64 0, .slice none 0 0, .slice none 0 0] 34) := ⟨_, rfl⟩
  obtain ⟨rP, rT, rC, hb1⟩ := rows3 w P T #[.int .i64 0, .int .i64 0, .int .i64 0, .slice none 0 0, .slice none 0 0, .int .i64 0, .int .i64 0, .slice none 0 0, .slice none 0 0, .int .i64 0, .int .i64 0, .slice none 0 0, .slice none 0 0] _ _ _ w1 hw1
  have hz1 := rows3z w P T #[.int .i64 0, .int .i64 0, .int .i64 0, .slice none 0 0, .slice none 0 0, .int .i64 0, .int .i64 0, .slice none 0 0, .slice none 0 0, .int .i64 0, .int .i64 0, .slice none 0 0, .slice none 0 0] _ _ _ w1 hw1
  have HRP := Lib.hid rP; have HRT := Lib.hid rT
  have HRS : Hid (Row w1 (w.heap.size + 2) 34 zeroTL.toArray) := rC
  have HB1 := Lib.hid hb1
  have hk : ∀ b, S b → w1.heap[b]? = w.heap[b]? := fun b hb' => hb1.block b (hS b hb')
  have HTE : Hid (Rep.cells S w1 T.toList t) := Rep.keep hk ht
  have HDOM := Lib.hid hS
  have HIN : Hid (∀ W, Below w.heap.size w W → Arr S W aI t.Ins) := fun W hb => hT.ins.keep fun b hb' => hb.block b (hS b hb')
  have HC3 := Lib.hid hT.c3; have HLI := Lib.hid hT.len
  have HC2 : Hid (T.toList[2]? = some (.int .i64 t.Loop)) := loop_cell ht
  obtain ⟨q, hq⟩ : ∃ q, q = chkAll p t := ⟨_, rfl⟩
  have HIC : Hid (Calls Tryd.prog 35 #[.agg P, .agg T] w1 fun e w' => e = .returned (.int .i64 q) ∧ Below w1.heap.size w1 w') := by
    rw [hq]
    exact icheck_any (Rep.keep hk hp) (Rep.keep hk ht) (fun b hb' => Nat.lt_of_lt_of_le (hS b hb') hb1.size) (hA.keep hb1)
  have HZO : Hid ((zeroTL.toArray).all (·.oneCell') = true) := by show _ = _; simp [zeroTL, Value.oneCell']
  obtain ⟨g, hg⟩ : ∃ g, g = doG p t (cseTo t) := ⟨_, rfl⟩
  rw [← hg]
  have HG := Lib.hid hg
  obtain ⟨gt, ge⟩ := g
  by_cases hq0 : q = 0
  case neg =>
    as_aux_lemma =>
      have hgg : (gt, ge) = (zeroT, q) := by rw [hg, doG_no (by rw [← hq]; exact hq0), hq]
      obtain ⟨rfl, rfl⟩ : gt = zeroT ∧ ge = q := by injection hgg with h1 h2; exact ⟨h1, h2⟩
      have hne : (ge != 0) = true := by simpa using hq0
      clear hP hT hp ht hS hA rP rT rC hb1 hk hq hg hgg hq0 HG
      go_enter Tryd.func14, Tryd.ntmps14
      go_upto_region 1 with fail
      rw [← hw1, show w.heap.size + 1 + 1 = w.heap.size + 2 from rfl]
      clear hw1
      go_wp2_with (first
        | (with_reducible refine ldP rfl rfl rfl HRP.out hsP ?_)
        | (with_reducible refine ldT rfl rfl rfl HRT.out hsT ?_)
        | (go_at_call 35; (with_reducible refine HIC.out.mono ?_); rintro e w2 ⟨rfl, hb2⟩; have HB2 := Lib.hid hb2; have HRS2 := Lib.hid (HRS.out.keep (hb2.block _ HRS.out.lt)); clear hb2)
        | (with_reducible refine stT (OLD := zeroTL.toArray) (C := zeroTL.toArray) rfl rfl rfl rfl HRS2.out rfl rfl HZO.out ?_))
      have HYB : Hid (Row (w2.setRow (w.heap.size + 2) zeroTL.toArray) (w.heap.size + 2) 34 zeroTL.toArray) := setRow_heap _ _ _ _ _ _ HRS2.out
      (try simp only [Exit.inBlock, Exit.then])
      refine bodyPost_ret (results_cell_slot rfl _ _ _ _ _ _ _ rfl rfl HYB.out Tryd.underlying34 rfl rfl) rfl ?_
      unfold PassOut
      exact ⟨zeroTL.toArray, rfl, HZO.out, rfl, zero_cells _ _, below_setRow (HB1.out.trans (HB2.out.mono HB1.out.size)) (by omega) _⟩
  case pos =>
    have h0 : chkAll p t = 0 := by rw [← hq]; exact hq0
    have hr := right_all h0
    have hgg : (gt, ge) = (cutT t (cseTo t), 0) := by rw [hg, doG_yes h0]
    obtain ⟨hgt, rfl⟩ : gt = cutT t (cseTo t) ∧ ge = 0 := by injection hgg with h1 h2; exact ⟨h1, h2⟩
    have HGT := Lib.hid hgt
    have HR := Lib.hid hr
    have hfi : nI ≤ 300 := by rw [← hT.len]; exact hr.few
    subst hq0
    clear hP hT hp ht hS hA rP rT rC hb1 hk hq hg hgg hgt h0 hr HG
    go_enter Tryd.func14, Tryd.ntmps14
    go_upto_region 1 with fail
    rw [← hw1, show w.heap.size + 1 + 1 = w.heap.size + 2 from rfl]
    clear hw1
    go_upto_region 4 with (first
      | (with_reducible refine ldP rfl rfl rfl HRP.out hsP ?_)
      | (with_reducible refine ldT rfl rfl rfl HRT.out hsT ?_)
      | (go_at_call 35; (with_reducible refine HIC.out.mono ?_); rintro e w2 ⟨rfl, hb2⟩; have HB2 := Lib.hid hb2; clear hb2))
    have hmm := @run_makeMap Tryd.prog
    go_upto_region 5 with fail
    have HM0 := Lib.hid (GMap.made csKey w2)
    have HB3 : Hid (Below w1.heap.size w1 (w2.alloc (.map #[] 0))) := HB2.out.alloc HB2.out.size _
    have hl2 := HB2.out.size
    have hz3 : (w2.alloc (.map #[] 0)).heap.size = w2.heap.size + 1 := by simp
    obtain ⟨gs, hgs⟩ : ∃ gs, gs = w2.heap.size := ⟨_, rfl⟩
    rw [← hgs] at HM0 hl2 hz3 ⊢
    obtain ⟨w3, hw3⟩ : ∃ w3, w3 = w2.alloc (.map #[] 0) := ⟨_, rfl⟩
    rw [← hw3] at HM0 HB3 hz3 ⊢
    have hrt3 : Row w3 (w.heap.size + 1) 34 T := HRT.out.keep (HB3.out.block _ HRT.out.lt)
    have t3 := hrt3.cell HC3.out
    have l3 := hrt3.lt
    clear hrt3 hw3 hmm hgs HB2
    go_wp2_with (with_reducible refine wp_make (n := nI) rfl rfl Tryd.underlying58 Tryd.info3 rfl rfl rfl (by omega) (by unfold maxLen; omega) fun w5 hblk hbel hsz => ?_; have HBK := Lib.hid hblk; have HB5 := Lib.hid hbel; have t3' := (HRT.out.keep ((HB3.out.trans (hbel.mono HB3.out.size)).block _ HRT.out.lt)).cell HC3.out; have l3' := (HRT.out.keep ((HB3.out.trans (hbel.mono HB3.out.size)).block _ HRT.out.lt)).lt; clear hblk hbel)
    clear t3 l3 t3' l3'
    have HCS : Hid (CS S w T t gs (gs + 1) nI 0 (cseL t nI 0) w5) := by
      have hbk := HBK.out
      rw [hz3] at hbk
      have hb : Below w1.heap.size w1 w5 := HB3.out.trans (HB5.out.mono HB3.out.size)
      refine ⟨⟨HRT.out.keep (hb.block _ HRT.out.lt), HRS.out.keep (hb.block _ HRS.out.lt), ?_, Rep.keep (fun b hb' => hb.block b (by have := HDOM.out b hb'; omega)) HTE.out, HDOM.out, HB1.out.trans (hb.mono HB1.out.size), by omega⟩, (HM0.out.below HB5.out).congr (fun q => (seen_zero t q).symm), by omega, by omega⟩
      rw [cseL_zero, List.map_replicate]
      exact hbk
    obtain ⟨gm, hgm⟩ : ∃ gm, gm = gs + 1 := ⟨_, rfl⟩
    rw [← hgm] at HCS ⊢
    clear hgm
    clear hsz HBK HB5 hl2 HM0 HB3 hz3
    go_loopw [32] (fun i W => ∃ k : Nat, k ≤ nI ∧ i = .int .i64 k ∧ CS S w T t gs gm nI k (cseL t nI k) W) (fun i _ => nI - (intOf i).toNat)
    case atStart => exact ⟨0, Nat.zero_le _, rfl, HCS.out⟩
    case round =>
      obtain ⟨k, hk, rfl, hcs⟩ := hrel
      have HC := Lib.hid hcs
      by_cases hlt : k < nI
      · as_aux_lemma =>
          obtain ⟨x, hx⟩ : ∃ x, t.Ins[k]? = some x := ⟨_, List.getElem?_eq_getElem (by rw [HLI.out]; exact hlt)⟩
          obtain ⟨bi, oi, haI, hSi, i0, i1, i2, i3, i4, i5, i6, i7, j0, j1, j2, j3, j4, j5, j6, j7⟩ := api_TIns_elem (HIN.out wr hcs.nl.below) hx
          have hbi : bi < wr.heap.size := Nat.lt_of_lt_of_le (HDOM.out bi hSi) hcs.nl.below.size
          subst haI
          have hki : (k : Int) < (nI : Int) := by omega
          have HX := Lib.hid hx
          have HJ : Hid (I64 x.Op ∧ I64 x.A ∧ I64 x.B ∧ I64 x.C ∧ I64 x.N ∧ I64 x.K.Kind ∧ I64 x.K.N) := ⟨j0, j1, j2, j3, j4, j6, j7⟩
          obtain ⟨ts, hts⟩ : ∃ ts, ts = cseL t nI k := ⟨_, rfl⟩
          have HTS := Lib.hid hts
          have HTL : Hid (ts.length = nI) := by show _ = _; rw [hts, cseL_len]
          have HGT : Hid (∀ v ∈ asksOf x, ∃ u : Nat, v = u ∧ u < nI ∧ ts[u]? = some (forV ts v) ∧ u < k) := fun v hv => by
            obtain ⟨u, y, rfl, h1, h2, -⟩ := valAt_iff.1 (HR.out.asks k x HX.out v hv)
            have hu : u < ts.length := by rw [HTL.out]; omega
            exact ⟨u, rfl, by omega, by rw [forV_at (List.getElem?_eq_getElem hu)]; exact List.getElem?_eq_getElem hu, by omega⟩
          obtain ⟨n, hn3, hasks, htk, hln⟩ := Go.Proofs.YtekofpigmggbbaaDoor.chk.asks_nat x
          have HP : Hid (putI ts x = cutArgs (forV ts) n x) := by show _ = _; unfold putI cutIns; rw [hasks]
          rw [htk] at HGT
          have HLN := Lib.hid hln
          have HNI : Hid (wr.heap.size > gm ∧ wr.heap.size > gs) := ⟨hcs.nl.nums.lt, hcs.map.lt⟩
          have HO0 : Hid (Row (wr.alloc (.cells #[.int .i64 0, .int .i64 0, .int .i64 0, .int .i64 0, .int .i64 0, .int .i64 0, .int .i64 0, .int .i64 0] 43)) wr.heap.size 43 #[.int .i64 0, .int .i64 0, .int .i64 0, .int .i64 0, .int .i64 0, .int .i64 0, .int .i64 0, .int .i64 0]) := row_new _ _ _
          have HX5 : Hid (Row ((wr.alloc (.cells #[.int .i64 0, .int .i64 0, .int .i64 0, .int .i64 0, .int .i64 0, .int .i64 0, .int .i64 0, .int .i64 0] 43)).setRow wr.heap.size #[.int .i64 x.Op, .int .i64 x.A, .int .i64 x.B, .int .i64 x.C, .int .i64 x.N, .int .i64 x.Exit, .int .i64 x.K.Kind, .int .i64 x.K.N]) wr.heap.size 43 #[.int .i64 x.Op, .int .i64 x.A, .int .i64 x.B, .int .i64 x.C, .int .i64 x.N, .int .i64 x.Exit, .int .i64 x.K.Kind, .int .i64 x.K.N]) := setRow_heap _ _ _ _ _ _ HO0.out
          have HB5 : Hid (Below wr.heap.size wr ((wr.alloc (.cells #[.int .i64 0, .int .i64 0, .int .i64 0, .int .i64 0, .int .i64 0, .int .i64 0, .int .i64 0, .int .i64 0] 43)).setRow wr.heap.size #[.int .i64 x.Op, .int .i64 x.A, .int .i64 x.B, .int .i64 x.C, .int .i64 x.N, .int .i64 x.Exit, .int .i64 x.K.Kind, .int .i64 x.K.N])) := below_setRow ((Below.refl _ _).alloc (Nat.le_refl _) _) (Nat.le_refl _) _
          have HZ5 : Hid (((wr.alloc (.cells #[.int .i64 0, .int .i64 0, .int .i64 0, .int .i64 0, .int .i64 0, .int .i64 0, .int .i64 0, .int .i64 0] 43)).setRow wr.heap.size #[.int .i64 x.Op, .int .i64 x.A, .int .i64 x.B, .int .i64 x.C, .int .i64 x.N, .int .i64 x.Exit, .int .i64 x.K.Kind, .int .i64 x.K.N]).heap.size = wr.heap.size + 1) := by show _ = _; simp [World.setRow]
          rw [← hts] at HC
          clear hx hcs hasks htk hln j0 j1 j2 j3 j4 j5 j6 j7 hSi hts
          go_upto_region 9 with (with_reducible refine stIx (q := x) (OLD := #[.int .i64 0, .int .i64 0, .int .i64 0, .int .i64 0, .int .i64 0, .int .i64 0, .int .i64 0, .int .i64 0]) rfl rfl rfl rfl HO0.out rfl ?_)
          obtain ⟨gx, hgx⟩ : ∃ gx, gx = wr.heap.size := ⟨_, rfl⟩
          generalize (wr.alloc (.cells #[.int .i64 0, .int .i64 0, .int .i64 0, .int .i64 0, .int .i64 0, .int .i64 0, .int .i64 0, .int .i64 0] 43)).setRow wr.heap.size #[.int .i64 x.Op, .int .i64 x.A, .int .i64 x.B, .int .i64 x.C, .int .i64 x.N, .int .i64 x.Exit, .int .i64 x.K.Kind, .int .i64 x.K.N] = w5 at HX5 HB5 HZ5 ⊢
          rw [← hgx] at HX5 HB5 HZ5 HNI ⊢
          have hcs5 := HC.out.low HB5.out HNI.out.1 HNI.out.2
          obtain ⟨v, hv⟩ : ∃ v, ts[k]? = some v := ⟨_, List.getElem?_eq_getElem (by rw [HTL.out]; exact hlt)⟩
          obtain ⟨m0, m1, m2⟩ := hcs5.nl.at' hv
          have HC6 := Lib.hid (hcs5.set k (k : Int))
          have HGX := Lib.hid hgx
          clear i0 i1 i2 i3 i4 i5 i6 i7 hbi HO0 hv hcs5 hgx
          go_upto_region 10 with fail
          have HX6 : Hid (Row (w5.setCell ⟨gm, k, none⟩ (.int .i64 (k : Int))) gx 43 #[.int .i64 x.Op, .int .i64 x.A, .int .i64 x.B, .int .i64 x.C, .int .i64 x.N, .int .i64 x.Exit, .int .i64 x.K.Kind, .int .i64 x.K.N]) := HX5.out.keep (Go.Bk.blk_setCell_other _ _ _ (show gx ≠ gm by have := HNI.out.1; omega))
          have HZ6 : Hid ((w5.setCell ⟨gm, k, none⟩ (.int .i64 (k : Int))).heap.size = gx + 1) := (Go.Bk.size_setCell _ _ _).trans HZ5.out
          generalize w5.setCell ⟨gm, k, none⟩ (.int .i64 (k : Int)) = w6 at HC6 HX6 HZ6 ⊢
          have HA1 : Hid (∀ W', Calls Tryd.prog 28 #[.agg #[.int .i64 x.Op, .int .i64 x.A, .int .i64 x.B, .int .i64 x.C, .int .i64 x.N, .int .i64 x.Exit, .int .i64 x.K.Kind, .int .i64 x.K.N]] W' fun e w' => (∃ a c, e = .returned (.slice a (asksOf x).length c) ∧ (a = none → c = 0) ∧ Arr (Fresh W' w') w' a (asksOf x)) ∧ Below W'.heap.size W' w') := fun W' => asks_any HJ.out.2.1 HJ.out.2.2.1 HJ.out.2.2.2.1
          rw [HLN.out] at HA1
          clear HX5 HB5 HZ5 m0 m1 m2
          go_upto_region 11 with fail
          have HL7 : Hid (Blk (w6.alloc (.cells #[.pointer (some ⟨gx, 1, none⟩), .pointer (some ⟨gx, 2, none⟩), .pointer (some ⟨gx, 3, none⟩)] 73)) w6.heap.size 73 (ptrL gx)) := blk_new _ (ptrL gx) _
          have HX7 : Hid (Row (w6.alloc (.cells #[.pointer (some ⟨gx, 1, none⟩), .pointer (some ⟨gx, 2, none⟩), .pointer (some ⟨gx, 3, none⟩)] 73)) gx 43 #[.int .i64 x.Op, .int .i64 x.A, .int .i64 x.B, .int .i64 x.C, .int .i64 x.N, .int .i64 x.Exit, .int .i64 x.K.Kind, .int .i64 x.K.N]) := HX6.out.keep (Below.heap_alloc _ _ _ HX6.out.lt)
          have HC7 := Lib.hid (HC6.out.low (N := gx) (W' := w6.alloc (.cells #[.pointer (some ⟨gx, 1, none⟩), .pointer (some ⟨gx, 2, none⟩), .pointer (some ⟨gx, 3, none⟩)] 73)) ((Below.refl _ _).alloc (by have := HZ6.out; omega) _) HNI.out.1 HNI.out.2)
          have HZ7 : Hid ((w6.alloc (.cells #[.pointer (some ⟨gx, 1, none⟩), .pointer (some ⟨gx, 2, none⟩), .pointer (some ⟨gx, 3, none⟩)] 73)).heap.size = gx + 2) := by show _ = _; rw [show (w6.alloc _).heap.size = w6.heap.size + 1 by simp, HZ6.out]
          rw [HZ6.out] at HL7 ⊢
          generalize w6.alloc (.cells #[.pointer (some ⟨gx, 1, none⟩), .pointer (some ⟨gx, 2, none⟩), .pointer (some ⟨gx, 3, none⟩)] 73) = w7 at HL7 HX7 HC7 HZ7 ⊢
          clear HX6 HC6 HZ6 HC
          go_wp2_with (first
            | (with_reducible refine ldI rfl rfl rfl HX7.out rfl ?_)
            | (go_at_call 28; (with_reducible refine (HA1.out _).mono ?_); rintro e w8 ⟨⟨a8, c8, rfl, -, -⟩, hb8⟩; have HB8 := Lib.hid hb8; clear hb8))
          have HX8 : Hid (Row w8 gx 43 (insL (cutArgs (forV ts) (0 : Nat) x)).toArray) := HX7.out.keep (HB8.out.block _ HX7.out.lt)
          have HL8 : Hid (Blk w8 (gx + 1) 73 (ptrL gx)) := HL7.out.keep (HB8.out.block _ HL7.out.lt)
          have HC8 := Lib.hid (HC7.out.low HB8.out (by have := HZ7.out; have := HNI.out.1; omega) (by have := HZ7.out; have := HNI.out.2; omega))
          clear HX7 HL7 HC7 HZ7 HB8 HA1
          go_loopw [48] (fun i W => ∃ j : Nat, j ≤ n ∧ i = .int .i64 j ∧ Row W gx 43 (insL (cutArgs (forV ts) (j : Nat) x)).toArray ∧ Blk W (gx + 1) 73 (ptrL gx) ∧ CS S w T t gs gm nI k (ts.set k (k : Int)) W) (fun i _ => n - (intOf i).toNat)
          case atStart => exact ⟨0, Nat.zero_le _, rfl, HX8.out, HL8.out, HC8.out⟩
          case round =>
            clear HX8 HL8 HC8
            obtain ⟨j, hj, rfl, hrow, hblk, hcs⟩ := hrel
            by_cases hlt2 : j < n
            · have hj3 : j = 0 ∨ j = 1 ∨ j = 2 := by omega
              rcases hj3 with rfl | rfl | rfl
              · as_aux_lemma =>
                  have d1 : decide ((0 : Int) < (n : Int)) = true := by rw [decide_eq_true_eq]; omega
                  have d2 : decide (((0 : Nat) : Int) < (n : Int)) = true := by rw [decide_eq_true_eq]; omega
                  have d3 : decide ((0 : Nat) < n) = true := by rw [decide_eq_true_eq]; omega
                  have hmem : x.A ∈ [x.A, x.B, x.C].take n := by
                    rcases (show n = 1 ∨ n = 2 ∨ n = 3 by omega) with rfl | rfl | rfl <;> first | omega | simp
                  obtain ⟨u, hu, hun, hts, huk⟩ := HGT.out x.A hmem
                  clear hmem
                  have HTU := Lib.hid hts
                  have hcx : wr.cell? ⟨gx, 1, none⟩ = some (.int .i64 (u : Int)) := by rw [← hu]; exact hrow.cell (j := 1) rfl
                  have HEQ := Lib.hid hu
                  have hcl : wr.cell? ⟨gx + 1, 0, none⟩ = some (.pointer (some ⟨gx, 1, none⟩)) := hblk.cell (j := 0) rfl
                  have hfr := hrow.blk.frozen 1
                  have hlx := hrow.lt
                  have hll := hblk.lt
                  obtain ⟨m0, -, m2⟩ := hcs.nl.at' (k := u) (v := forV ts x.A) (by rw [List.getElem?_set_ne (by omega)]; exact hts)
                  have hui : (u : Int) < (nI : Int) := by omega
                  have HRW := Lib.hid hrow; have HBL := Lib.hid hblk; have HCW := Lib.hid hcs; have HLT2 := Lib.hid hlt2
                  clear hrow hblk hcs hu hts hlt2
                  obtain ⟨fv, hfv⟩ : ∃ fv, fv = forV ts x.A := ⟨_, rfl⟩
                  rw [← hfv] at m0
                  have HFV := Lib.hid hfv
                  clear hfv
                  go_upto_region 14 with fail
                  go_still_tail 14, (by kernel_rfl)
                  change wpList _ _ _ _ _ wr.drew
                  go_wp2_with fail
                  have HRX : Hid (Row (wr.drew.setCell ⟨gx, 1, none⟩ (.int .i64 fv)) gx 43 (insL (cutArgs (forV ts) (1 : Nat) x)).toArray) := by
                    rw [HFV.out]
                    exact HRW.out.blk.set 1 (.int .i64 (forV ts x.A))
                  have HLX : Hid (Blk (wr.drew.setCell ⟨gx, 1, none⟩ (.int .i64 fv)) (gx + 1) 73 (ptrL gx)) := HBL.out.keep (Go.Bk.blk_setCell_other _ _ _ (show gx + 1 ≠ gx by omega))
                  have HCX := Lib.hid (HCW.out.low (N := gx) (W' := wr.drew.setCell ⟨gx, 1, none⟩ (.int .i64 fv)) (below_set (Below.refl _ _).drew (Nat.le_refl _)) HNI.out.1 HNI.out.2)
                  go_roundw
                  case rel => exact ⟨1, by have := HLT2.out; omega, by go_num, HRX.out, HLX.out, HCX.out⟩
                  case measure => have := HLT2.out; simp [intOf]; omega
              · as_aux_lemma =>
                  have d1 : decide ((1 : Int) < (n : Int)) = true := by rw [decide_eq_true_eq]; omega
                  have d2 : decide (((1 : Nat) : Int) < (n : Int)) = true := by rw [decide_eq_true_eq]; omega
                  have d3 : decide ((1 : Nat) < n) = true := by rw [decide_eq_true_eq]; omega
                  have hmem : x.B ∈ [x.A, x.B, x.C].take n := by
                    rcases (show n = 1 ∨ n = 2 ∨ n = 3 by omega) with rfl | rfl | rfl <;> first | omega | simp
                  obtain ⟨u, hu, hun, hts, huk⟩ := HGT.out x.B hmem
                  clear hmem
                  have HTU := Lib.hid hts
                  have hcx : wr.cell? ⟨gx, 2, none⟩ = some (.int .i64 (u : Int)) := by rw [← hu]; exact hrow.cell (j := 2) rfl
                  have HEQ := Lib.hid hu
                  have hcl : wr.cell? ⟨gx + 1, 1, none⟩ = some (.pointer (some ⟨gx, 2, none⟩)) := hblk.cell (j := 1) rfl
                  have hfr := hrow.blk.frozen 2
                  have hlx := hrow.lt
                  have hll := hblk.lt
                  obtain ⟨m0, -, m2⟩ := hcs.nl.at' (k := u) (v := forV ts x.B) (by rw [List.getElem?_set_ne (by omega)]; exact hts)
                  have hui : (u : Int) < (nI : Int) := by omega
                  have HRW := Lib.hid hrow; have HBL := Lib.hid hblk; have HCW := Lib.hid hcs; have HLT2 := Lib.hid hlt2
                  clear hrow hblk hcs hu hts hlt2
                  obtain ⟨fv, hfv⟩ : ∃ fv, fv = forV ts x.B := ⟨_, rfl⟩
                  rw [← hfv] at m0
                  have HFV := Lib.hid hfv
                  clear hfv
                  go_upto_region 14 with fail
                  go_still_tail 14, (by kernel_rfl)
                  change wpList _ _ _ _ _ wr.drew
                  go_wp2_with fail
                  have HRX : Hid (Row (wr.drew.setCell ⟨gx, 2, none⟩ (.int .i64 fv)) gx 43 (insL (cutArgs (forV ts) (2 : Nat) x)).toArray) := by
                    rw [HFV.out]
                    exact HRW.out.blk.set 2 (.int .i64 (forV ts x.B))
                  have HLX : Hid (Blk (wr.drew.setCell ⟨gx, 2, none⟩ (.int .i64 fv)) (gx + 1) 73 (ptrL gx)) := HBL.out.keep (Go.Bk.blk_setCell_other _ _ _ (show gx + 1 ≠ gx by omega))
                  have HCX := Lib.hid (HCW.out.low (N := gx) (W' := wr.drew.setCell ⟨gx, 2, none⟩ (.int .i64 fv)) (below_set (Below.refl _ _).drew (Nat.le_refl _)) HNI.out.1 HNI.out.2)
                  go_roundw
                  case rel => exact ⟨2, by have := HLT2.out; omega, by go_num, HRX.out, HLX.out, HCX.out⟩
                  case measure => have := HLT2.out; simp [intOf]; omega
              · as_aux_lemma =>
                  have d1 : decide ((2 : Int) < (n : Int)) = true := by rw [decide_eq_true_eq]; omega
                  have d2 : decide (((2 : Nat) : Int) < (n : Int)) = true := by rw [decide_eq_true_eq]; omega
                  have d3 : decide ((2 : Nat) < n) = true := by rw [decide_eq_true_eq]; omega
                  have hmem : x.C ∈ [x.A, x.B, x.C].take n := by
                    rcases (show n = 1 ∨ n = 2 ∨ n = 3 by omega) with rfl | rfl | rfl <;> first | omega | simp
                  obtain ⟨u, hu, hun, hts, huk⟩ := HGT.out x.C hmem
                  clear hmem
                  have HTU := Lib.hid hts
                  have hcx : wr.cell? ⟨gx, 3, none⟩ = some (.int .i64 (u : Int)) := by rw [← hu]; exact hrow.cell (j := 3) rfl
                  have HEQ := Lib.hid hu
                  have hcl : wr.cell? ⟨gx + 1, 2, none⟩ = some (.pointer (some ⟨gx, 3, none⟩)) := hblk.cell (j := 2) rfl
                  have hfr := hrow.blk.frozen 3
                  have hlx := hrow.lt
                  have hll := hblk.lt
                  obtain ⟨m0, -, m2⟩ := hcs.nl.at' (k := u) (v := forV ts x.C) (by rw [List.getElem?_set_ne (by omega)]; exact hts)
                  have hui : (u : Int) < (nI : Int) := by omega
                  have HRW := Lib.hid hrow; have HBL := Lib.hid hblk; have HCW := Lib.hid hcs; have HLT2 := Lib.hid hlt2
                  clear hrow hblk hcs hu hts hlt2
                  obtain ⟨fv, hfv⟩ : ∃ fv, fv = forV ts x.C := ⟨_, rfl⟩
                  rw [← hfv] at m0
                  have HFV := Lib.hid hfv
                  clear hfv
                  go_upto_region 14 with fail
                  go_still_tail 14, (by kernel_rfl)
                  change wpList _ _ _ _ _ wr.drew
                  go_wp2_with fail
                  have HRX : Hid (Row (wr.drew.setCell ⟨gx, 3, none⟩ (.int .i64 fv)) gx 43 (insL (cutArgs (forV ts) (3 : Nat) x)).toArray) := by
                    rw [HFV.out]
                    exact HRW.out.blk.set 3 (.int .i64 (forV ts x.C))
                  have HLX : Hid (Blk (wr.drew.setCell ⟨gx, 3, none⟩ (.int .i64 fv)) (gx + 1) 73 (ptrL gx)) := HBL.out.keep (Go.Bk.blk_setCell_other _ _ _ (show gx + 1 ≠ gx by omega))
                  have HCX := Lib.hid (HCW.out.low (N := gx) (W' := wr.drew.setCell ⟨gx, 3, none⟩ (.int .i64 fv)) (below_set (Below.refl _ _).drew (Nat.le_refl _)) HNI.out.1 HNI.out.2)
                  go_roundw
                  case rel => exact ⟨3, by have := HLT2.out; omega, by go_num, HRX.out, HLX.out, HCX.out⟩
                  case measure => have := HLT2.out; simp [intOf]; omega
            · obtain rfl : j = n := by omega
              rw [← HP.out] at hrow
              have HRW := Lib.hid hrow; have HCW := Lib.hid hcs
              clear hrow hblk hcs hlt2 hj
              obtain ⟨y, hy⟩ : ∃ y, y = putI ts x := ⟨_, rfl⟩
              have HY := Lib.hid hy
              rw [← hy] at HRW
              have hnl := HCW.out.nl
              have t2 := hnl.rt.cell HC2.out
              have l2 := hnl.rt.lt
              obtain ⟨o, ho⟩ : ∃ o, o = keyOf y (decide ((k : Int) < t.Loop)) := ⟨_, rfl⟩
              have HOF : Hid (Calls Tryd.prog 36 #[.agg (insL y).toArray, .bool (decide ((k : Int) < t.Loop))] wr (OfPost wr o)) := by
                rw [ho]
                exact of_any y _
              have HKA : Hid (keyAt t (cseSt t k).1 k = o) := by
                show _ = _
                unfold keyAt
                rw [HX.out, ho, hy, HTS.out, ← HLI.out, cseL_putI HR.out HX.out (Nat.le_refl k)]
              have HKG : Hid (∀ q, o = some q → keyGood q) := fun q hq => by
                have hts : ∀ z ∈ ts, I64 z := by rw [HTS.out]; exact cseL_i64 hfi
                have hg : ∀ v, I64 (forV ts v) := forV_i64 hts
                obtain ⟨h1, h2, h3, h4, h5, h6, h7⟩ := HJ.out
                refine key_good (x := y) (ho.symm.trans hq) ?_ ?_ ?_ ?_ ?_ ?_
                all_goals rw [hy]; unfold putI cutIns cutArgs; dsimp only
                all_goals first | assumption | (split <;> first | exact hg _ | assumption)
              clear hy ho hnl HGT HP
              have HSZ : Hid (wr.heap.size > gm ∧ wr.heap.size > gs) := ⟨HCW.out.nl.nums.lt, HCW.out.map.lt⟩
              have HO9 : Hid (∀ W : World, Row (W.alloc (.cells #[.int .i64 0, .int .i64 0, .int .i64 0, .int .i64 0, .bool false, .int .i64 0, .int .i64 0] 76)) W.heap.size 76 (keyC zeroK)) := fun W => row_new _ _ _
              have HZ9 : Hid (∀ (W : World) (C : Array Value), ((W.alloc (.cells #[.int .i64 0, .int .i64 0, .int .i64 0, .int .i64 0, .bool false, .int .i64 0, .int .i64 0] 76)).setRow W.heap.size C).heap.size = W.heap.size + 1) := fun W C => by simp [World.setRow]
              cases o with
              | none =>
                have HSN := Lib.hid (step_none HKA.out)
                have HLL : Hid (ts.set k (k : Int) = cseL t nI (k + 1)) := by
                  show _ = _
                  have := cseL_set (t := t) (n := nI) (k := k)
                  rw [HSN.out] at this
                  rw [HTS.out]
                  exact this
                go_wp2_with (first
                  | (with_reducible refine ldI rfl rfl rfl HRW.out rfl ?_)
                  | (go_at_call 36; (with_reducible refine HOF.out.mono ?_); rintro e w9 ⟨rfl, hb9⟩; have HB9 := Lib.hid hb9; dsimp only [Option.getD_none, Option.isSome_none]; clear hb9)
                  | (with_reducible refine stK (q := zeroK) (OLD := keyC zeroK) rfl rfl rfl rfl (HO9.out _) rfl ?_))
                have HCX := Lib.hid (HCW.out.low (N := wr.heap.size) (below_setRow (HB9.out.alloc HB9.out.size (.cells #[.int .i64 0, .int .i64 0, .int .i64 0, .int .i64 0, .bool false, .int .i64 0, .int .i64 0] 76)) HB9.out.size (keyC zeroK)) HSZ.out.1 HSZ.out.2)
                rw [HLL.out] at HCX
                go_roundw
                case rel => exact ⟨k + 1, by omega, by go_num, HCX.out.nl, (HCX.out.map.mono (Nat.le_succ k)).congr (fun q => (seen_none HKA.out q).symm), HCX.out.far, HCX.out.ne⟩
                case measure => simp [intOf]; omega
              | some q =>
                have HKQ : Hid (csKey.good q) := HKG.out q rfl
                cases hf : firstK (cseSt t k).2 q with
                | none =>
                  have HSN := Lib.hid (step_new HKA.out hf)
                  have HLL : Hid (ts.set k (k : Int) = cseL t nI (k + 1)) := by
                    show _ = _
                    have := cseL_set (t := t) (n := nI) (k := k)
                    rw [HSN.out] at this
                    rw [HTS.out]
                    exact this
                  have HFF := Lib.hid hf
                  have HV : Hid (seenF t k q = none) := by show _ = _; unfold seenF; rw [hf]; rfl
                  have hk9 : k < 1000000000 := by omega
                  clear hf
                  go_wp2_with (first
                    | (with_reducible refine ldI rfl rfl rfl HRW.out rfl ?_)
                    | (go_at_call 36; (with_reducible refine HOF.out.mono ?_); rintro e w9 ⟨rfl, hb9⟩; have HB9 := Lib.hid hb9; have HBX := Lib.hid (below_setRow (hb9.alloc hb9.size (.cells #[.int .i64 0, .int .i64 0, .int .i64 0, .int .i64 0, .bool false, .int .i64 0, .int .i64 0] 76)) hb9.size (keyC q)); have HCX := Lib.hid (HCW.out.low (N := wr.heap.size) HBX.out HSZ.out.1 HSZ.out.2); have HKX : Hid (Row ((w9.alloc (.cells #[.int .i64 0, .int .i64 0, .int .i64 0, .int .i64 0, .bool false, .int .i64 0, .int .i64 0] 76)).setRow w9.heap.size (keyC q)) w9.heap.size 76 (keyC q)) := setRow_heap _ _ _ _ _ _ (HO9.out w9); dsimp only [Option.getD_some, Option.isSome_some]; clear hb9)
                    | (with_reducible refine stK (q := q) (OLD := keyC zeroK) rfl rfl rfl rfl (HO9.out _) rfl ?_)
                    | (with_reducible refine ldK (q := q) rfl rfl rfl HKX.out ?_)
                    | (at_lookup; (with_reducible refine wp_gmap_getok rfl rfl Tryd.underlying72 (zero_int _) rfl HCX.out.map (k := q) (Eq.trans (b := .agg (keyC q)) rfl (csKey_val _)) HKQ.out ?_); rw [HV.out]; dsimp only [Option.getD_none, Option.isSome_none])
                    | (at_mapUpdate; (with_reducible refine wp_gmap_put rfl rfl Tryd.underlying72 rfl HCX.out.map hk9 (k := q) (Eq.trans (b := .agg (keyC q)) rfl (csKey_val _)) rfl HKQ.out fun w11 hm' hg' => ?_); have HM' := Lib.hid hm'; have HG' := Lib.hid hg'; clear hm' hg'))
                  have HNX := Lib.hid (nl_grown HCX.out.nl HG'.out HCX.out.far (fun e => HCX.out.ne e.symm))
                  rw [HLL.out] at HNX
                  go_roundw
                  case rel => exact ⟨k + 1, by omega, by go_num, HNX.out, HM'.out.congr (fun q' => seen_new HKA.out HFF.out q'), HCX.out.far, HCX.out.ne⟩
                  case measure => simp [intOf]; omega
                | some j0 =>
                  have HSN := Lib.hid (step_was HKA.out hf)
                  have HLL : Hid ((ts.set k (k : Int)).set k (j0 : Int) = cseL t nI (k + 1)) := by
                    show _ = _
                    have := cseL_set (t := t) (n := nI) (k := k)
                    rw [HSN.out] at this
                    rw [List.set_set, HTS.out]
                    exact this
                  have HFF := Lib.hid hf
                  have HV : Hid (seenF t k q = some (.int .i64 (j0 : Int))) := by show _ = _; unfold seenF; rw [hf]; rfl
                  have HVK : Hid ((ts.set k (k : Int))[k]? = some (k : Int)) := by show _ = _; rw [List.getElem?_set_self (by rw [HTL.out]; exact hlt)]
                  clear hf
                  go_wp2_with (first
                    | (with_reducible refine ldI rfl rfl rfl HRW.out rfl ?_)
                    | (go_at_call 36; (with_reducible refine HOF.out.mono ?_); rintro e w9 ⟨rfl, hb9⟩; have HB9 := Lib.hid hb9; have HBX := Lib.hid (below_setRow (hb9.alloc hb9.size (.cells #[.int .i64 0, .int .i64 0, .int .i64 0, .int .i64 0, .bool false, .int .i64 0, .int .i64 0] 76)) hb9.size (keyC q)); have HCX := Lib.hid (HCW.out.low (N := wr.heap.size) HBX.out HSZ.out.1 HSZ.out.2); have HKX : Hid (Row ((w9.alloc (.cells #[.int .i64 0, .int .i64 0, .int .i64 0, .int .i64 0, .bool false, .int .i64 0, .int .i64 0] 76)).setRow w9.heap.size (keyC q)) w9.heap.size 76 (keyC q)) := setRow_heap _ _ _ _ _ _ (HO9.out w9); obtain ⟨m0, m1, m2⟩ := HCX.out.nl.at' HVK.out; dsimp only [Option.getD_some, Option.isSome_some]; clear hb9)
                    | (with_reducible refine stK (q := q) (OLD := keyC zeroK) rfl rfl rfl rfl (HO9.out _) rfl ?_)
                    | (with_reducible refine ldK (q := q) rfl rfl rfl HKX.out ?_)
                    | (at_lookup; (with_reducible refine wp_gmap_getok rfl rfl Tryd.underlying72 (zero_int _) rfl HCX.out.map (k := q) (Eq.trans (b := .agg (keyC q)) rfl (csKey_val _)) HKQ.out ?_); rw [HV.out]; dsimp only [Option.getD_some, Option.isSome_some]))
                  have HCY := Lib.hid (HCX.out.set k (j0 : Int))
                  rw [HLL.out] at HCY
                  go_roundw
                  case rel => exact ⟨k + 1, by omega, by go_num, HCY.out.nl, (HCY.out.map.mono (Nat.le_succ k)).congr (fun q' => (seen_was HKA.out HFF.out q').symm), HCY.out.far, HCY.out.ne⟩
                  case measure => simp [intOf]; omega
      · as_aux_lemma =>
          obtain rfl : k = nI := by omega
          have HLL : Hid (cseL t k k = cseTo t) := by show _ = _; rw [← HLI.out]; exact cseL_all t
          have hnl := hcs.nl
          have HN := Lib.hid hnl
          have HRTR : Hid (Row wr (w.heap.size + 1) 34 T) := hnl.rt
          have HCUT : Hid (Calls Tryd.prog 37 #[.agg T, .slice (some ⟨gm, 0, none⟩) k k] wr (PassOut wr (cutT t (cseTo t), 0))) := by
            have hto : Blk wr gm 3 ((cseTo t).map (Value.int .i64)) := by rw [← HLL.out]; exact hnl.nums
            have hl := cseTo_len t
            exact icut_out (R := fun b => b = gm) hnl.ret (fun b hb' => Nat.lt_of_lt_of_le (hnl.dom b hb') hnl.below.size) (hto.arr (cse_i64 HR.out.few) (by rw [hl, HLI.out]; unfold maxLen; omega) rfl) (fun b hb' => by rw [hb']; exact hto.lt) (by rw [hl, HLI.out]) HR.out cse_right (cse_fine HR.out)
          clear hnl hlt hcs
          go_wp2_with (first
            | (with_reducible refine ldT rfl rfl rfl HRTR.out hsT ?_)
            | (go_at_call 37; (with_reducible refine HCUT.out.mono ?_); rintro e w7 ⟨C, hC1, hC2, rfl, hr7, hb7⟩; have HC1 := Lib.hid hC1; have HC2 := Lib.hid hC2; have HR7 := Lib.hid hr7; have HB7 := Lib.hid hb7; have HS7 := Lib.hid (HN.out.call hb7).res; clear hC1 hC2 hr7 hb7)
            | (with_reducible refine stT (OLD := zeroTL.toArray) (C := C) rfl rfl rfl rfl HS7.out HC1.out rfl HC2.out ?_))
          have HYB : Hid (Row (w7.setRow (w.heap.size + 2) C) (w.heap.size + 2) 34 C) := setRow_heap _ _ _ _ _ _ HS7.out
          (try simp only [Exit.inBlock, Exit.then])
          have hfar := HN.out.far; have hgm := HN.out.nums.lt
          refine bodyPost_ret (results_cell_slot rfl _ _ _ _ _ _ _ rfl rfl HYB.out Tryd.underlying34 rfl (infoT HC1.out)) rfl ?_
          unfold PassOut
          refine ⟨C, HC1.out, HC2.out, rfl, ?_, below_setRow (HN.out.below.trans (HB7.out.mono HN.out.below.size)) (by omega) _⟩
          show Rep.cells _ _ _ gt
          rw [HGT.out]
          have hss : (w7.setRow (w.heap.size + 2) C).heap.size = w7.heap.size := by simp [World.setRow]
          exact Rep.mono (fun j hj => ⟨Nat.le_trans HN.out.below.size hj.1, by rw [hss]; exact hj.2⟩) (Rep.keep (fun j hj => setRow_other _ _ _ _ (by have := hj.1; omega)) HR7.out)
end Go.Proofs.YtekofpigmggbbaaDoor.cse
