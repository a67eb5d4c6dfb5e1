/- One turn ahead: Do; walked. -/
import Derived.Test.YtekofpigmggbbaaDoorQPeelE
import Derived.Test.YtekofpigmggbbaaDoorQPeelB
set_option linter.unusedVariables false
set_option linter.unusedSimpArgs false
namespace Go.Proofs.YtekofpigmggbbaaDoor.peel
open Go.Bk Go.RowKit Go.Proofs.YtekofpigmggbbaaDoor.ir Go.Proofs.YtekofpigmggbbaaDoor.chk Go.Proofs.YtekofpigmggbbaaDoor.cut Go.Proofs.YtekofpigmggbbaaDoor.pas
attribute [local go_sem ↓] Go.wp_at_zero Go.wp_at_succ
theorem opGoal_mkG {P : Program} {ops : Array Oper} {Q : Exit → Act → World → Prop} {C : World → Prop} {k : Nat} {o : Oper} {K : Act → World → Prop} {a : Act} {w : World} (h0 : ops[k]? = some o) (hw : Region.wanted o (yielded ops a.tmps) = true)
 (h : ∀ R : Act → World → Prop, (∀ a' w', C w' → K a' w' → R a' w') → wpList P ops (AfterT R Q) [o] a w) : opGoal P ops Q C k K a w := by
 unfold opGoal
 rw [h0]
 have h1 := h (fun a' w' => C w' ∧ K a' w') fun _ _ h1 h2 => ⟨h1, h2⟩
 unfold wpList at h1
 rw [if_pos hw] at h1
 show if _ then _ else _
 rw [if_pos hw]
 rcases h1 with h1 | h1
 · refine .inl ?_
   unfold Oper.wp at *
   generalize (execOp a.eval o).run P w = r at *
   cases r with
   | ok n w' => cases n <;> exact h1
   | halt x w' => cases x <;> exact h1
 · exact .inr ⟨h1.1, h1.2⟩
theorem opGoal_off {P : Program} {ops : Array Oper} {Q : Exit → Act → World → Prop} {C : World → Prop} {k : Nat} {o : Oper} {K : Act → World → Prop} {a : Act} {w : World} (h0 : ops[k]? = some o) (hw : Region.wanted o (yielded ops a.tmps) = false) (hC : C w)
 (h : K (a.put o.dst undef) w) : opGoal P ops Q C k K a w := by
 unfold opGoal
 rw [h0]
 show if _ then _ else _
 rw [if_neg (by rw [hw]; exact Bool.false_ne_true)]
 exact ⟨hC, h⟩
section
variable {P : Program} {ops : Array Oper} {Q : Exit → Act → World → Prop} {a : Act} {w : World} {rest : List Oper} {o : Oper}
/-- 'make([]int, 0, n)'. -/
theorem wp_make0 {l c : Operand} {t : TypeId} {e : TypeId} {z : Value} {bytes : Nat} (hg : o.guard = none) (hop : o.op = Op.makeSlice t l c) (h1 : P.underlying t = some (.slice e))
 (h2 : (P.info? e).map (fun i => (i.zero, i.size, i.bytes)) = some (some z, 1, bytes)) {n : Nat} {D : Int} (hl : a.eval l = .int .i64 0) (hc : a.eval c = .int .i64 D) (hD : D = (n : Int)) (hn : bytes * n ≤ 281474976710656) (hm : n ≤ maxLen)
 (hK : ∀ w', Own (fun _ => False) w' w.heap.size e (.slice (some ⟨w.heap.size, 0, none⟩) 0 n) ([] : List Int) → Below w.heap.size w w' → wpList P ops Q rest (a.put o.dst (.slice (some ⟨w.heap.size, 0, none⟩) 0 n)) w') :
 wpList P ops Q (o :: rest) a w := by
 obtain ⟨i, hi, hz, hs, hb⟩ := info_parts h2
 refine wpList_make_own w hg l c t hop w.heap.size e i z 1 h1 hi hz hs .i64 .i64 D n hl hc hD (by rw [hb]; exact hn) hm (Nat.le_refl _) fun w' hown hgr => hK w' ⟨[], rfl, fun k x cs h => by simp at h, hown⟩ ((Below.refl _ _).grown hgr (Nat.le_refl _) (by simp))
end
theorem id_right (t : Api.TTrace) : toRight t (idTo t.Ins.length) = true := by
 unfold toRight
 rw [idTo_len, idTo_ok _ _ (Nat.le_refl _), decide_eq_true rfl]
 rfl
theorem id_fine {t : Api.TTrace} (hr : RightT t) : fineT t (idTo t.Ins.length) = true := by
 refine fineT_of hr (idTo_ok _ _ (Nat.le_refl _)) fun k x n hx htl hn => ?_
 have hl := (List.getElem?_eq_some_iff.1 hx).1
 rw [idTo_at hl] at hn
 obtain rfl := Option.some.inj hn
 exact ⟨by omega, x, by simpa using hx, htl⟩
theorem peel_right (t : Api.TTrace) : toRight (twiceT t) (peelTo t) = true := by
 unfold toRight
 rw [peelTo_ok t, peelTo_len, twice_len, decide_eq_true rfl]
 rfl
/-- Is something that it asks not firm? -/
def looseB (t : Api.TTrace) (k : Nat) (x : Api.TIns) : Bool := (asksOf x).any fun y => !(((firmTo t k)[y.toNat]?).getD false)
theorem firmTo_succ {t : Api.TTrace} {k : Nat} {x : Api.TIns} (hx : t.Ins[k]? = some x) : firmTo t (k + 1) = firmTo t k ++ [firmB t x && !looseB t k x] := by
 show firmTo t k ++ [_] = _
 rw [hx]
 unfold looseB
 simp [List.all_eq_not_any_not]
theorem peelAt_is {t : Api.TTrace} {k : Nat} {x : Api.TIns} (hx : t.Ins[k]? = some x) : peelAt t k = if (firmB t x && !looseB t k x) = true then (if tellsOf x.Op = true then (k : Int) else -1) else (t.Ins.length : Int) + k := by
 unfold peelAt
 rw [hx, firmTo_succ hx]
 have : (firmTo t k ++ [firmB t x && !looseB t k x])[k]? = some (firmB t x && !looseB t k x) := by
  rw [List.getElem?_append_right (by rw [firmTo_len]; omega), firmTo_len]
  simp
 rw [this]
 rfl
def isL (t : Api.TTrace) (n k : Nat) : List Bool := firmTo t k ++ List.replicate (n - k) false
theorem isL_zero (t : Api.TTrace) (n : Nat) : isL t n 0 = List.replicate n false := by unfold isL; simp [firmTo]
theorem isL_set {t : Api.TTrace} {n k : Nat} {x : Api.TIns} (hx : t.Ins[k]? = some x) (hk : k < n) : (isL t n k).set k (firmB t x && !looseB t k x) = isL t n (k + 1) := by
 unfold isL
 rw [firmTo_succ hx, List.set_append_right _ _ (by rw [firmTo_len]; omega), firmTo_len]
 obtain ⟨m, rfl⟩ : ∃ m, n = k + m + 1 := ⟨n - k - 1, by omega⟩
 rw [show k + m + 1 - k = m + 1 by omega, show k + m + 1 - (k + 1) = m by omega, List.replicate_succ]
 simp
theorem isL_at {t : Api.TTrace} {n k u : Nat} (hu : u < k) : ∃ b, (isL t n k)[u]? = some b ∧ (firmTo t k)[u]? = some b := by
 have h : u < (firmTo t k).length := by rw [firmTo_len]; exact hu
 exact ⟨_, by unfold isL; rw [List.getElem?_append_left h]; exact List.getElem?_eq_getElem h, List.getElem?_eq_getElem h⟩
theorem isL_now {t : Api.TTrace} {n k : Nat} (hk : k < n) : (isL t n k)[k]? = some false := by
 unfold isL
 rw [List.getElem?_append_right (by rw [firmTo_len]; omega), firmTo_len, Nat.sub_self, List.getElem?_replicate, if_pos (by omega)]
theorem isL_len {t : Api.TTrace} {n k : Nat} (hk : k ≤ n) : (isL t n k).length = n := by unfold isL; rw [List.length_append, firmTo_len, List.length_replicate]; omega
def toL (t : Api.TTrace) (n k : Nat) : List Int := idTo n ++ (List.range k).map (peelAt t)
theorem toL_zero (t : Api.TTrace) (n : Nat) : toL t n 0 = idTo n := by unfold toL; simp
theorem toL_succ (t : Api.TTrace) (n k : Nat) : toL t n k ++ [peelAt t k] = toL t n (k + 1) := by unfold toL; rw [List.range_succ, List.map_append, List.append_assoc]; rfl
theorem toL_len (t : Api.TTrace) (n k : Nat) : (toL t n k).length = n + k := by unfold toL; rw [List.length_append, idTo_len, List.length_map, List.length_range]
/-- The numbers while they grow. -/
structure PD (S : Nat → Prop) (w : World) (T : Array Value) (t : Api.TTrace) (v : Value) (l : List Int) (W : World) : Prop where
 rt : Row W (w.heap.size + 1) 34 T
 res : Row W (w.heap.size + 2) 34 zeroTL.toArray
 ret : Rep.cells S W T.toList t
 dom : ∀ b, S b → b < w.heap.size
 nums : Own (fun _ => False) W (w.heap.size + 3) 3 v l
 below : Below w.heap.size w W
 far : w.heap.size + 3 ≤ W.heap.size
section
variable {S : Nat → Prop} {w : World} {T : Array Value} {t : Api.TTrace} {v v' : Value} {l : List Int} {W W' : World}
theorem PD.call (h : PD S w T t v l W) (hb : Below W.heap.size W W') : PD S w T t v l W' :=
 ⟨h.rt.keep (hb.block _ h.rt.lt), h.res.keep (hb.block _ h.res.lt), Rep.keep (fun b hb' => hb.block b (Nat.lt_of_lt_of_le (h.dom b hb') h.below.size)) h.ret, h.dom, h.nums.below hb (fun _ h => h.elim), h.below.trans (hb.mono h.below.size), Nat.le_trans h.far hb.size⟩
theorem PD.add (h : PD S w T t v l W) {x : Int} (ho : Own (fun _ => False) W' (w.heap.size + 3) 3 v' (l ++ [x])) (hg : W.grownBy W' v.ownBlock) : PD S w T t v' (l ++ [x]) W' := by
 have hf := h.far; have hs := h.below.size
 have k : ∀ c, c < w.heap.size + 3 → W'.heap[c]? = W.heap[c]? := fun c hc => hg.block c (by omega) (fun e => by have := (h.nums.lt c e.symm).1; omega)
 exact ⟨h.rt.keep (k _ (by omega)), h.res.keep (k _ (by omega)), Rep.keep (fun b hb' => k b (by have := h.dom b hb'; omega)) h.ret, h.dom, ho, h.below.grown hg h.below.size (fun r hr => by have := (h.nums.lt r hr).1; omega), Nat.le_trans hf hg.size⟩
end
/-- And which are firm. -/
structure PE (S : Nat → Prop) (w : World) (T : Array Value) (t : Api.TTrace) (n gb gi : Nat) (v : Value) (l : List Int) (A : List Bool) (W : World) : Prop where
 pd : PD S w T t v l W
 box : Row W gi 87 #[.slice (some ⟨gb, 0, none⟩) n n]
 arr : Blk W gb 4 (boolsV A)
 ne : gb ≠ gi ∧ v.ownBlock ≠ some gb ∧ v.ownBlock ≠ some gi
 far : w.heap.size + 3 ≤ gb ∧ w.heap.size + 3 ≤ gi
section
variable {S : Nat → Prop} {w : World} {T : Array Value} {t : Api.TTrace} {n gb gi : Nat} {v v' : Value} {l : List Int} {A : List Bool} {W W' : World}
theorem PE.call (h : PE S w T t n gb gi v l A W) (hb : Below W.heap.size W W') : PE S w T t n gb gi v l A W' :=
 ⟨h.pd.call hb, h.box.keep (hb.block _ h.box.lt), h.arr.keep (hb.block _ h.arr.lt), h.ne, h.far⟩
theorem PE.add (h : PE S w T t n gb gi v l A W) {x : Int} (ho : Own (fun _ => False) W' (w.heap.size + 3) 3 v' (l ++ [x])) (hg : W.grownBy W' v.ownBlock) (hst : Stay W v v') : PE S w T t n gb gi v' (l ++ [x]) A W' := by
 have l1 := h.box.lt; have l2 := h.arr.lt
 refine ⟨h.pd.add ho hg, h.box.keep (hg.block _ h.box.lt (fun e => h.ne.2.2 e.symm)), h.arr.keep (hg.block _ h.arr.lt (fun e => h.ne.2.1 e.symm)), ⟨h.ne.1, fun e => ?_, fun e => ?_⟩, h.far⟩
 · rcases hst _ e with h1 | h1
   · exact h.ne.2.1 h1
   · omega
 · rcases hst _ e with h1 | h1
   · exact h.ne.2.2 h1
   · omega
theorem PE.put (h : PE S w T t n gb gi v l A W) (k : Nat) (b : Bool) : PE S w T t n gb gi v l (A.set k b) (W.setCell ⟨gb, k, none⟩ (.bool b)) := by
 have hf := h.far
 have hh : ∀ c, c ≠ gb → (W.setCell ⟨gb, k, none⟩ (.bool b)).heap[c]? = W.heap[c]? := fun c hc => blk_setCell_other _ _ _ hc
 have hd := h.pd.dom
 have p := h.pd
 refine ⟨⟨p.rt.keep (hh _ (by omega)), p.res.keep (hh _ (by omega)), Rep.keep (fun c hc => hh c (by have := hd c hc; omega)) p.ret, hd, own_same' p.nums (fun c hc => hh c fun e => h.ne.2.1 (by rw [← e]; exact hc)) (fun _ h => h.elim), below_set p.below (by omega), by rw [size_setCell]; exact p.far⟩, h.box.keep (hh _ h.ne.1.symm), ?_, h.ne, hf⟩
 rw [← boolsV_set]
 exact h.arr.set k _
end
set_option maxRecDepth 100000 in
set_option maxHeartbeats 20000000 in
theorem pldo_any {S : Nat → Prop} {w : World} {P T : Array Value} {p : Api.Prog} {t : Api.TTrace} (hp : Rep.cells S w P.toList p) (ht : Rep.cells S w T.toList t) (hS : ∀ b, S b → b < w.heap.size) (hA : cod.Asc w) :
 Calls Tryd.prog 19 #[.agg P, .agg T] w (PassOut w (doR p t (peelT t))) := by
 obtain ⟨a0, nF, c0, hP⟩ := pin_of hp
 obtain ⟨aI, nI, cI, aE, nE, cE, a7, n7, c7, a8, n8, c8, b7, m7, d7, b8, m8, d8, hall⟩ := tall_of ht
 have hsP := hP.size
 have hsT : T.size = 13 := rep_size ht
 obtain ⟨w1, hw1⟩ : ∃ w1, w1 = ((w.alloc (.cells P 26)).alloc (.cells T 34)).alloc (.cells #[.int .i64 0, .int .i64 0, .int .i64 0, .slice none 0 0, .slice none 0 0, .int .i64 0, .int .i64 0, .slice none 0 0, .slice none 0 0, .int .i64 0, .int .i64 0, .slice none 0 0, .slice none 0 0] 34) := ⟨_, rfl⟩
 obtain ⟨rP, rT, rC, hb1⟩ := rows3 w P T #[.int .i64 0, .int .i64 0, .int .i64 0, .slice none 0 0, .slice none 0 0, .int .i64 0, .int .i64 0, .slice none 0 0, .slice none 0 0, .int .i64 0, .int .i64 0, .slice none 0 0, .slice none 0 0] _ _ _ w1 hw1
 have hz1 : w1.heap.size = w.heap.size + 3 := by rw [hw1]; simp
 have HRP := Lib.hid rP; have HRT := Lib.hid rT
 have HRS : Hid (Row w1 (w.heap.size + 2) 34 zeroTL.toArray) := rC
 have HB1 := Lib.hid hb1
 have hk : ∀ b, S b → w1.heap[b]? = w.heap[b]? := fun b hb' => hb1.block b (hS b hb')
 have HTE : Hid (Rep.cells S w1 T.toList t) := Rep.keep hk ht
 have HDOM := Lib.hid hS
 have HIN : Hid (∀ W, Below w.heap.size w W → Arr S W aI t.Ins) := fun W hb => hall.ins.keep fun b hb' => hb.block b (hS b hb')
 have HI2 : Hid (T.toList[2]? = some (.int .i64 t.Loop)) := by show _ = _; rw [hall.eq]; rfl
 have HI3 : Hid (T.toList[3]? = some (.slice aI nI cI)) := by show _ = _; rw [hall.eq]; rfl
 have HI4 : Hid (T.toList[4]? = some (.slice aE nE cE)) := by show _ = _; rw [hall.eq]; rfl
 have HLI : Hid (t.Ins.length = nI) := hall.lenI
 have HLE : Hid (t.Exits.length = nE) := hall.lenE
 obtain ⟨q, hq⟩ : ∃ q, q = chkAll p t := ⟨_, rfl⟩
 have HIC : Hid (Calls Tryd.prog 35 #[.agg P, .agg T] w1 fun e w' => e = .returned (.int .i64 q) ∧ Below w1.heap.size w1 w') := by
  rw [hq]
  exact icheck_any (Rep.keep hk hp) (Rep.keep hk ht) (fun b hb' => Nat.lt_of_lt_of_le (hS b hb') hb1.size) (hA.keep hb1)
 have HZO : Hid ((zeroTL.toArray).all (·.oneCell') = true) := by show _ = _; simp [zeroTL, Value.oneCell']
 by_cases hq0 : q = 0
 case neg =>
  as_aux_lemma =>
   have hne : (q != 0) = true := by simpa using hq0
   have HDR : Hid (doR p t (peelT t) = (zeroT, q)) := by show _ = _; rw [doR_no (by rw [← hq]; exact hq0), hq]
   clear hP hall hp ht hS hA rP rT rC hb1 hk hq hq0 hz1
   go_enter Tryd.func19, Tryd.ntmps19
   go_upto_region 1 with fail
   rw [← hw1, show w.heap.size + 1 + 1 = w.heap.size + 2 from rfl]
   clear hw1
   go_wp2_with (first
    | (with_reducible refine ldP rfl rfl rfl HRP.out hsP ?_)
    | (with_reducible refine ldT rfl rfl rfl HRT.out hsT ?_)
    | (go_at_call 35; (with_reducible refine HIC.out.mono ?_); rintro e w2 ⟨rfl, hb2⟩; have HB2 := Lib.hid hb2; have HRS2 := Lib.hid (HRS.out.keep (hb2.block _ HRS.out.lt)); clear hb2)
    | (with_reducible refine stT (OLD := zeroTL.toArray) (C := zeroTL.toArray) rfl rfl rfl rfl HRS2.out rfl rfl HZO.out ?_))
   have HYB : Hid (Row (w2.setRow (w.heap.size + 2) zeroTL.toArray) (w.heap.size + 2) 34 zeroTL.toArray) := setRow_heap _ _ _ _ _ _ HRS2.out
   (try simp only [Exit.inBlock, Exit.then])
   refine bodyPost_ret (results_cell_slot rfl _ _ _ _ _ _ _ rfl rfl HYB.out Tryd.underlying34 rfl rfl) rfl ?_
   rw [HDR.out]
   unfold PassOut
   exact ⟨zeroTL.toArray, rfl, HZO.out, rfl, zero_cells _ _, below_setRow (HB1.out.trans (HB2.out.mono HB1.out.size)) (by omega) _⟩
 case pos =>
  have h0 : chkAll p t = 0 := by rw [← hq]; exact hq0
  have hr := right_all h0
  rw [doR_yes h0]
  obtain ⟨r, hrr⟩ : ∃ r, r = peelT t := ⟨_, rfl⟩
  rw [← hrr]
  have HRR := Lib.hid hrr
  have HR := Lib.hid hr
  have hnI : nI ≤ 300 := by rw [← hall.lenI]; exact hr.few
  have hnE : nE ≤ 200 := by rw [← hall.lenE]; exact hr.fewE
  have HZ1 := Lib.hid hz1
  subst hq0
  clear hP hall hp ht hS hA rP rT rC hb1 hk hq h0 hr hz1 HZO hrr
  go_enter Tryd.func19, Tryd.ntmps19
  go_upto_region 1 with fail
  rw [← hw1, show w.heap.size + 1 + 1 = w.heap.size + 2 from rfl]
  clear hw1
  go_upto_region 4 with (first
   | (with_reducible refine ldP rfl rfl rfl HRP.out hsP ?_)
   | (with_reducible refine ldT rfl rfl rfl HRT.out hsT ?_)
   | (go_at_call 35; (with_reducible refine HIC.out.mono ?_); rintro e w2 ⟨rfl, hb2⟩; have HB2 := Lib.hid hb2; clear hb2))
  have HPD0 : Hid (∀ W v, Below w2.heap.size w2 W → Own (fun _ => False) W w2.heap.size 3 v ([] : List Int) → PD S w T t v (idTo 0) W) := fun W v hb ho => by
   have hb' : Below w1.heap.size w1 W := HB2.out.trans (hb.mono HB2.out.size)
   have z := HZ1.out; have z2 := HB2.out.size; have z3 := hb'.size
   exact ⟨HRT.out.keep (hb'.block _ HRT.out.lt), HRS.out.keep (hb'.block _ HRS.out.lt), Rep.keep (fun b hb2 => hb'.block b (by have := HDOM.out b hb2; omega)) HTE.out, HDOM.out, own_base2 ho (by omega), HB1.out.trans (hb'.mono HB1.out.size), by omega⟩
  have hrt2 : Row w2 (w.heap.size + 1) 34 T := HRT.out.keep (HB2.out.block _ HRT.out.lt)
  have t3 := hrt2.cell HI3.out
  have l3 := hrt2.lt
  have hw2n : IntKind.i64.wrap (2 * (nI : Int)) = 2 * (nI : Int) := by rw [IntWalk.i64_in _ (by omega)]
  clear hrt2 HRP HIC
  go_wp2_with (with_reducible refine wp_make0 (n := 2 * nI) rfl rfl Tryd.underlying58 Tryd.info3 rfl rfl (by omega) (by omega) (by unfold maxLen; omega) fun w3 hown hbel => ?_; have HPD1 := Lib.hid (HPD0.out w3 _ hbel hown); clear hown hbel)
  clear t3 l3 HRT HRS HTE HB1 HB2 HPD0 HZ1
  go_loopw [8, 27] (fun s i W => ∃ (k : Nat) (v : Value), v = s ∧ k ≤ nI ∧ i = .int .i64 k ∧ PD S w T t v (idTo k) W) (fun _ i _ => nI - (intOf i).toNat)
  case atStart => exact ⟨0, _, rfl, Nat.zero_le _, rfl, HPD1.out⟩
  case round =>
   obtain ⟨k, v, rfl, hk, rfl, hpd⟩ := hrel
   by_cases hlt : k < nI
   · as_aux_lemma =>
      have HPD := Lib.hid hpd
      have HO := Lib.hid hpd.nums
      have HFR : Hid (w.heap.size + 3 ≤ wr.heap.size) := hpd.far
      have HLEN : Hid ((idTo k).length + 1 ≤ 1000000000) := by show _ ≤ _; rw [idTo_len]; omega
      have HIV : Hid (∀ W, Rep.cells (fun _ => False) W [.int .i64 (k : Int)] (k : Int)) := fun W => ⟨rfl, by unfold I64; omega⟩
      clear hpd HPD1
      go_wp2_with (at_builtin; (with_reducible refine Tryd.wp_app58 (S := fun _ => False) (v := v) (y := (k : Int)) rfl rfl (by with_unfolding_all rfl) rfl rfl (by first | rfl | omega) HO.out (HIV.out _) (fun _ h => h.elim) HLEN.out HFR.out fun v6 w6 hown6 hg6 => ?_); have HN6 := Lib.hid (HPD.out.add hown6 hg6); clear hown6 hg6)
      go_roundw
      case rel => exact ⟨k + 1, _, rfl, by omega, by go_num, by rw [idTo_succ]; exact HN6.out⟩
      case measure => simp [intOf]; omega
   · obtain rfl : nI = k := by omega
     have HPD := Lib.hid hpd
     have t2 := hpd.rt.cell HI2.out
     have t4 := hpd.rt.cell HI4.out
     have lt := hpd.rt.lt
     clear HPD1 hpd
     by_cases hnot : peelNot t = true
     · as_aux_lemma =>
        have HRT9 : Hid (r = t) := by show _ = _; rw [HRR.out]; unfold peelT; rw [if_pos hnot]
        have hcs : 0 < t.Loop ∨ (¬ 0 < t.Loop ∧ nI = 0) ∨ (¬ 0 < t.Loop ∧ ¬ nI = 0 ∧ 150 < nI) ∨ (¬ 0 < t.Loop ∧ ¬ nI = 0 ∧ ¬ 150 < nI ∧ 100 < nE) := by
         unfold peelNot at hnot
         rw [HLI.out, HLE.out] at hnot
         simp only [Bool.or_eq_true, decide_eq_true_eq] at hnot
         omega
        obtain ⟨a, cap, hv, -, -, harr⟩ := HPD.out.nums.arr
        rw [idTo_len] at hv
        subst hv
        have HCUT : Hid (Calls Tryd.prog 37 #[.agg T, .slice a nI cap] wr (PassOut wr (t, 0))) := by
         have h := icut_out HPD.out.ret (fun b hb' => Nat.lt_of_lt_of_le (HPD.out.dom b hb') HPD.out.below.size) harr (fun b hb' => hb'.elim False.elim (·.2)) (nT := nI) (cT := cap) (idTo_len nI) HR.out (by rw [← HLI.out]; exact id_right t) (by rw [← HLI.out]; exact id_fine HR.out)
         rw [← HLI.out, cut_id HR.out, HLI.out] at h
         exact h
        have HRTR := Lib.hid HPD.out.rt
        clear harr hnot
        rcases hcs with h1 | ⟨h1, h2⟩ | ⟨h1, h2, h3⟩ | ⟨h1, h2, h3, h4⟩
        case' inl =>
         have e1 : decide (0 < t.Loop) = true := decide_eq_true h1
         have e2 := e1
        case' inr.inl =>
         have e1 : decide (0 < t.Loop) = false := decide_eq_false h1
         have e2 : ((nI : Int) == 0) = true := by rw [beq_iff_eq]; omega
         have e3 : decide ((nI : Int) = 0) = true := decide_eq_true (by omega)
         have e4 : decide (nI = 0) = true := decide_eq_true h2
         clear h1 h2
        case' inr.inr.inl =>
         have e1 : decide (0 < t.Loop) = false := decide_eq_false h1
         have e2 : ((nI : Int) == 0) = false := by rw [beq_eq_false_iff_ne]; omega
         have e3 : decide ((150 : Int) < (nI : Int)) = true := decide_eq_true (by omega)
         have e4 : decide (150 < nI) = true := decide_eq_true h3
         clear h1 h2 h3
        case' inr.inr.inr =>
         have e1 : decide (0 < t.Loop) = false := decide_eq_false h1
         have e2 : ((nI : Int) == 0) = false := by rw [beq_eq_false_iff_ne]; omega
         have e3 : decide ((150 : Int) < (nI : Int)) = false := decide_eq_false (by omega)
         have e4 : decide (150 < nI) = false := decide_eq_false h3
         have e5 : decide ((100 : Int) < (nE : Int)) = true := decide_eq_true (by omega)
         have e6 : decide (100 < nE) = true := decide_eq_true h4
         clear h1 h2 h3 h4
        all_goals
         go_wp2_with (first
          | (with_reducible refine ldT rfl rfl rfl HRTR.out hsT ?_)
          | (go_at_call 37; (with_reducible refine HCUT.out.mono ?_); rintro e w7 ⟨C, hC1, hC2, rfl, hr7, hb7⟩; have HC1 := Lib.hid hC1; have HC2 := Lib.hid hC2; have HR7 := Lib.hid hr7; have HB7 := Lib.hid hb7; have HS7 := Lib.hid (HPD.out.call hb7).res; clear hC1 hC2 hr7 hb7)
          | (with_reducible refine stT (OLD := zeroTL.toArray) (C := C) rfl rfl rfl rfl HS7.out HC1.out rfl HC2.out ?_))
         have HYB : Hid (Row (w7.setRow (w.heap.size + 2) C) (w.heap.size + 2) 34 C) := setRow_heap _ _ _ _ _ _ HS7.out
         (try simp only [Exit.inBlock, Exit.then])
         have hfar := HPD.out.far
         refine bodyPost_ret (results_cell_slot rfl _ _ _ _ _ _ _ rfl rfl HYB.out Tryd.underlying34 rfl (infoT HC1.out)) rfl ?_
         unfold PassOut
         refine ⟨C, HC1.out, HC2.out, rfl, ?_, below_setRow (HPD.out.below.trans (HB7.out.mono HPD.out.below.size)) (by omega) _⟩
         show Rep.cells _ _ _ r
         rw [HRT9.out]
         have hss : (w7.setRow (w.heap.size + 2) C).heap.size = w7.heap.size := by simp [World.setRow]
         exact Rep.mono (fun j hj => ⟨Nat.le_trans HPD.out.below.size hj.1, by rw [hss]; exact hj.2⟩) (Rep.keep (fun j hj => setRow_other _ _ _ _ (by have := hj.1; omega)) HR7.out)
     · have HRT9 : Hid (r = cutT (twiceT t) (peelTo t)) := by show _ = _; rw [HRR.out]; unfold peelT; rw [if_neg hnot]
       obtain ⟨h1, h2, h3, h4⟩ : ¬ 0 < t.Loop ∧ ¬ nI = 0 ∧ ¬ 150 < nI ∧ ¬ 100 < nE := by
        unfold peelNot at hnot
        rw [HLI.out, HLE.out] at hnot
        simp only [Bool.or_eq_true, decide_eq_true_eq] at hnot
        omega
       have e1 : decide (0 < t.Loop) = false := decide_eq_false h1
       have e2 : ((nI : Int) == 0) = false := by rw [beq_eq_false_iff_ne]; omega
       have e3 : decide ((150 : Int) < (nI : Int)) = false := decide_eq_false (by omega)
       have e4 : decide (150 < nI) = false := decide_eq_false h3
       have e5 : decide ((100 : Int) < (nE : Int)) = false := decide_eq_false (by omega)
       have e6 : decide (100 < nE) = false := decide_eq_false h4
       clear hnot HRR
       go_upto_region 13 with fail
       clear t2 t4 lt e1 e2 e3 e4 e5 e6
       go_upto_region 14 with (with_reducible refine wp_make (n := nI) rfl rfl Tryd.underlying87 Tryd.info4 rfl rfl rfl (by omega) (by unfold maxLen; omega) fun w4 hblk hbel hsz => ?_; have HU0 := Lib.hid hblk; have HB4 := Lib.hid hbel; have HSZ := Lib.hid hsz; clear hblk hbel hsz)
       obtain ⟨gb, hgb⟩ : ∃ g, g = wr.heap.size := ⟨_, rfl⟩
       obtain ⟨gi, hgi⟩ : ∃ g, g = w4.heap.size := ⟨_, rfl⟩
       have HPE : Hid (PE S w T t nI gb gi v (toL t nI 0) (isL t nI 0) (w4.alloc (.cells #[.slice (some ⟨gb, 0, none⟩) nI nI] 87))) := by
        have hb5 : Below wr.heap.size wr (w4.alloc (.cells #[.slice (some ⟨gb, 0, none⟩) nI nI] 87)) := HB4.out.alloc HB4.out.size _
        have z := HSZ.out; have z2 := HPD.out.far
        have hl := HPD.out.nums.lt
        refine ⟨?_, by rw [hgi]; exact row_new _ _ _, ?_, ⟨by omega, fun e => by have := (hl gb e).2; omega, fun e => by have := (hl gi e).2; omega⟩, by omega, by omega⟩
        · rw [toL_zero]
          exact HPD.out.call hb5
        · rw [isL_zero, hgb]
          have hu : Blk w4 wr.heap.size 4 (boolsV (List.replicate nI false)) := by have := HU0.out; rwa [show List.replicate nI (Value.bool false) = boolsV (List.replicate nI false) by simp [boolsV]] at this
          exact hu.keep (Below.heap_alloc _ _ _ hu.lt)
       rw [← hgb, ← hgi]
       generalize w4.alloc (.cells #[.slice (some ⟨gb, 0, none⟩) nI nI] 87) = w5 at HPE ⊢
       have t3 := HPE.out.pd.rt.cell HI3.out
       have lt := HPE.out.pd.rt.lt
       clear HU0 HB4 HSZ HPD hgb hgi
       go_wp2_with fail
       clear t3 lt
       go_loopw [8, 62] (fun s i W => ∃ (k : Nat) (v : Value), v = s ∧ k ≤ nI ∧ i = .int .i64 k ∧ PE S w T t nI gb gi v (toL t nI k) (isL t nI k) W) (fun _ i _ => nI - (intOf i).toNat)
       case atStart => exact ⟨0, _, rfl, Nat.zero_le _, rfl, HPE.out⟩
       case round =>
        obtain ⟨k, v, rfl, hk, rfl, hpe⟩ := hrel
        by_cases hlt : k < nI
        · as_aux_lemma =>
           obtain ⟨x, hx⟩ : ∃ x, t.Ins[k]? = some x := ⟨_, List.getElem?_eq_getElem (by rw [HLI.out]; exact hlt)⟩
           obtain ⟨bi, oi, haI, hSi, i0, i1, i2, i3, i4, i5, i6, i7, j0, j1, j2, j3, j4, j5, j6, j7⟩ := api_TIns_elem (HIN.out wr hpe.pd.below) hx
           have hbi : bi < wr.heap.size := Nat.lt_of_lt_of_le (HDOM.out bi hSi) hpe.pd.below.size
           subst haI
           have hki : (k : Int) < (nI : Int) := by omega
           have HX := Lib.hid hx
           have HAS := Lib.hid (HR.out.asks k x hx)
           have HX5 : Hid (Row (wr.alloc (.cells #[.int .i64 x.Op, .int .i64 x.A, .int .i64 x.B, .int .i64 x.C, .int .i64 x.N, .int .i64 x.Exit, .int .i64 x.K.Kind, .int .i64 x.K.N] 43)) wr.heap.size 43 #[.int .i64 x.Op, .int .i64 x.A, .int .i64 x.B, .int .i64 x.C, .int .i64 x.N, .int .i64 x.Exit, .int .i64 x.K.Kind, .int .i64 x.K.N]) := row_new _ _ _
           have HB5 : Hid (Below wr.heap.size wr (wr.alloc (.cells #[.int .i64 x.Op, .int .i64 x.A, .int .i64 x.B, .int .i64 x.C, .int .i64 x.N, .int .i64 x.Exit, .int .i64 x.K.Kind, .int .i64 x.K.N] 43))) := (Below.refl _ _).alloc (Nat.le_refl _) _
           have HPE5 := Lib.hid (hpe.call HB5.out)
           have HA1 : Hid (∀ W', Calls Tryd.prog 28 #[.agg #[.int .i64 x.Op, .int .i64 x.A, .int .i64 x.B, .int .i64 x.C, .int .i64 x.N, .int .i64 x.Exit, .int .i64 x.K.Kind, .int .i64 x.K.N]] W' fun e w' => (∃ a c, e = .returned (.slice a (asksOf x).length c) ∧ (a = none → c = 0) ∧ Arr (Fresh W' w') w' a (asksOf x)) ∧ Below W'.heap.size W' w') := fun W' => asks_any j1 j2 j3
           have HGB : Hid (gb < wr.heap.size) := hpe.arr.lt
           clear hx hpe hSi j0 j1 j2 j3 j4 j5 j6 j7
           go_upto_region 17 with fail
           have HGXB : Hid (gb < wr.heap.size) := HGB.out
           obtain ⟨gx, hgx⟩ : ∃ gx, gx = wr.heap.size := ⟨_, rfl⟩
           generalize wr.alloc (.cells #[.int .i64 x.Op, .int .i64 x.A, .int .i64 x.B, .int .i64 x.C, .int .i64 x.N, .int .i64 x.Exit, .int .i64 x.K.Kind, .int .i64 x.K.N] 43) = w5 at HX5 HPE5 ⊢
           rw [← hgx] at HX5 HGXB ⊢
           clear i0 i1 i2 i3 i4 i5 i6 i7 hbi hgx HB5 HGB
           obtain ⟨f, hf⟩ : ∃ f, f = firmB t x := ⟨_, rfl⟩
           obtain ⟨q, hq⟩ : ∃ q, q = looseB t k x := ⟨_, rfl⟩
           obtain ⟨n, hn⟩ : ∃ n, n = (asksOf x).length := ⟨_, rfl⟩
           have HFQ : Hid ((isL t nI k).set k (f && !q) = isL t nI (k + 1) ∧ peelAt t k = if (f && !q) = true then (if tellsOf x.Op = true then (k : Int) else -1) else (nI : Int) + k) := by
            show _ ∧ _
            rw [hf, hq, ← HLI.out]
            exact ⟨isL_set HX.out (by have := HLI.out; omega), peelAt_is HX.out⟩
           have HFI : Hid (∀ W, Below w5.heap.size w5 W → Calls Tryd.prog 49 #[.agg T, .agg #[.int .i64 x.Op, .int .i64 x.A, .int .i64 x.B, .int .i64 x.C, .int .i64 x.N, .int .i64 x.Exit, .int .i64 x.K.Kind, .int .i64 x.K.N]] W fun e w' => e = .returned (.bool f) ∧ Below W.heap.size W w') := fun W hb => by
            rw [hf]
            have h := HPE5.out.pd.call hb
            exact firm_any x h.ret (fun b hb' => Nat.lt_of_lt_of_le (h.dom b hb') h.below.size)
           have HCO : Hid (∀ W a c, Below w5.heap.size w5 W → Arr (fun b => b < W.heap.size) W a (asksOf x) → Calls Tryd.prog 50 #[.slice a n c, .func (.func 51) #[] #[.pointer (some ⟨gi, 0, none⟩)]] W fun e w' => e = .returned (.bool q) ∧ Below W.heap.size W w') := fun W a c hb har => by
            rw [hq]
            refine funs.containsI_any (c := c) (F := 51) (caps := #[.pointer (some ⟨gi, 0, none⟩)]) mild_grow hn.symm har (fun _ h => h) (fun _ _ => by simp) fun y wx hy hg => ?_
            obtain ⟨u, z, rfl, h1, h2, -⟩ := valAt_iff.1 (HAS.out y hy)
            obtain ⟨b, hb1, hb2⟩ := isL_at (t := t) (n := nI) (k := k) (u := u) (by omega)
            have h := (HPE5.out.call hb).call hg
            refine (pdo1_any h.box h.arr hb1 (by omega) (by omega)).mono ?_
            rintro e w' ⟨rfl, rfl⟩
            exact ⟨by rw [Int.toNat_natCast, hb2]; rfl, Below.refl _ _⟩
           rw [← hn] at HA1
           have HKI : Hid (k < nI ∧ nI ≤ 300) := ⟨hlt, hnI⟩
           clear hf hq hn HAS HX
           go_cut [] (fun W => PE S w T t nI gb gi v (toL t nI k) ((isL t nI k).set k (f && !q)) W ∧ Row W gx 43 #[.int .i64 x.Op, .int .i64 x.A, .int .i64 x.B, .int .i64 x.C, .int .i64 x.N, .int .i64 x.Exit, .int .i64 x.K.Kind, .int .i64 x.K.N])
           case first =>
            cases f with
            | false =>
              as_aux_lemma =>
               have HBD : Hid (Below w5.heap.size w5 w5.drew) := (Below.refl _ _).drew
               obtain ⟨C0, HCC⟩ : ∃ C0 : World → Prop, Hid (∀ W, C0 W ↔ Below w5.heap.size w5 W) := ⟨_, fun _ => Iff.rfl⟩
               have HC0 : Hid (C0 w5.drew) := (HCC.out _).2 HBD.out
               have HNEC : Nonempty (HeldW C0) := ⟨⟨_, HC0.out⟩⟩
               have HDT : Hid (∀ W, (∃ d : HeldW C0, W = d.val) → Row W (w.heap.size + 1) 34 T) := fun W ⟨d, hd⟩ => by rw [hd]; exact (HPE5.out.call ((HCC.out _).1 d.ok)).pd.rt
               have HDX : Hid (∀ W, (∃ d : HeldW C0, W = d.val) → Row W gx 43 #[.int .i64 x.Op, .int .i64 x.A, .int .i64 x.B, .int .i64 x.C, .int .i64 x.N, .int .i64 x.Exit, .int .i64 x.K.Kind, .int .i64 x.K.N]) := fun W ⟨d, hd⟩ => by rw [hd]; exact HX5.out.keep (((HCC.out _).1 d.ok).block _ HX5.out.lt)
               refine wp_region_tree C0 (.quiet 0 (.quiet 1 (.quiet 2 (.quiet 3 (.op 4 (.quiet 5 (.quiet 6 (.both 7 (.op 8 (.op 9 (.op 10 (.op 11 .tail)))) 8 (.op 7 (.op 9 (.op 10 (.op 11 .tail)))))))))))) 12 30 (by kernel_rfl) (by kernel_rfl) (by kernel_rfl) (by kernel_rfl) HC0.out ?_
               simp only [List.drop_succ_cons, List.drop_zero]
               have hdi : ∀ d : HeldW C0, d.val.cell? ⟨gi, 0, none⟩ = some (.slice (some ⟨gb, 0, none⟩) nI nI) := fun d => (HPE5.out.call ((HCC.out _).1 d.ok)).box.cell (j := 0) rfl
               have hdl : ∀ d : HeldW C0, gi < d.val.heap.size := fun d => (HPE5.out.call ((HCC.out _).1 d.ok)).box.lt
               refine tree_quiet (by repeat (first | with_reducible exact nth_zero | with_reducible apply nth_succ)) ?_
               go_big_quiet_step (fail)
               refine wpQuiet_nil ?_
               refine tree_quiet (by repeat (first | with_reducible exact nth_zero | with_reducible apply nth_succ)) ?_
               go_big_quiet_step (fail)
               refine wpQuiet_nil ?_
               refine tree_quiet (by repeat (first | with_reducible exact nth_zero | with_reducible apply nth_succ)) ?_
               go_big_quiet_want
               (first | (with_reducible refine qldT rfl rfl HDT.out hsT ?_; simp only [Act.put, List.setIfInBounds_toArray, List.set_cons_succ, List.set_cons_zero]))
               go_big_quiet_on
               refine wpQuiet_nil ?_
               refine tree_quiet (by repeat (first | with_reducible exact nth_zero | with_reducible apply nth_succ)) ?_
               go_big_quiet_want
               (first | (with_reducible refine qldI rfl rfl HDX.out rfl ?_; simp only [Act.put, List.setIfInBounds_toArray, List.set_cons_succ, List.set_cons_zero]))
               go_big_quiet_on
               refine wpQuiet_nil ?_
               unfold wpTree
               refine opGoal_mkG (by repeat (first | with_reducible exact nth_zero | with_reducible apply nth_succ)) (by rfl) fun RR HRR => ?_
               go_wp2_with (go_at_call 49; refine (HFI.out _ HBD.out).mono ?_; rintro e w6 ⟨rfl, hb⟩; have HB6 := Lib.hid (HBD.out.trans (hb.mono HBD.out.size)); clear hb)
               have HC6 : Hid (C0 w6) := (HCC.out _).2 HB6.out
               refine AfterT.normal (HRR _ _ (isC HC6.out) ?_)
               clear HRR RR
               refine tree_quiet (by repeat (first | with_reducible exact nth_zero | with_reducible apply nth_succ)) ?_
               go_big_quiet_step (fail)
               refine wpQuiet_nil ?_
               refine tree_quiet (by repeat (first | with_reducible exact nth_zero | with_reducible apply nth_succ)) ?_
               go_big_quiet_step (fail)
               refine wpQuiet_nil ?_
               clear hdi hdl
               refine tree_both ?_ ?_
               · skip
                 refine opGoal_off (by repeat (first | with_reducible exact nth_zero | with_reducible apply nth_succ)) (by rfl) (isC HC6.out) ?_
                 simp only [Act.put, List.setIfInBounds_toArray, List.set_cons_succ, List.set_cons_zero]
                 unfold wpTree
                 refine opGoal_off (by repeat (first | with_reducible exact nth_zero | with_reducible apply nth_succ)) (by rfl) (isC HC6.out) ?_
                 simp only [Act.put, List.setIfInBounds_toArray, List.set_cons_succ, List.set_cons_zero]
                 unfold wpTree
                 refine opGoal_off (by repeat (first | with_reducible exact nth_zero | with_reducible apply nth_succ)) (by rfl) (isC HC6.out) ?_
                 simp only [Act.put, List.setIfInBounds_toArray, List.set_cons_succ, List.set_cons_zero]
                 unfold wpTree
                 refine opGoal_off (by repeat (first | with_reducible exact nth_zero | with_reducible apply nth_succ)) (by rfl) (isC HC6.out) ?_
                 simp only [Act.put, List.setIfInBounds_toArray, List.set_cons_succ, List.set_cons_zero]
                 unfold wpTree
                 refine opGoal_mkG (by repeat (first | with_reducible exact nth_zero | with_reducible apply nth_succ)) (by rfl) fun RR HRR => ?_
                 go_wp2_with fail
                 refine AfterT.normal (HRR _ _ (isC HC6.out) ?_)
                 clear HRR RR
                 refine tree_done ?_
                 have HP9 := Lib.hid (HPE5.out.call HB6.out)
                 have HX9 : Hid (Row w6 gx 43 #[.int .i64 x.Op, .int .i64 x.A, .int .i64 x.B, .int .i64 x.C, .int .i64 x.N, .int .i64 x.Exit, .int .i64 x.K.Kind, .int .i64 x.K.N]) := HX5.out.keep (HB6.out.block _ HX5.out.lt)
                 have HPU : Hid (PE S w T t nI gb gi v (toL t nI k) ((isL t nI k).set k (false && !q)) (w6.setCell ⟨gb, k, none⟩ (.bool (false)))) := by
                  have h := HP9.out.put k (false)
                  first | exact h | (rw [Bool.true_and]; exact h) | (rw [Bool.false_and]; exact h)
                 have HXU : Hid (Row (w6.setCell ⟨gb, k, none⟩ (.bool (false))) gx 43 #[.int .i64 x.Op, .int .i64 x.A, .int .i64 x.B, .int .i64 x.C, .int .i64 x.N, .int .i64 x.Exit, .int .i64 x.K.Kind, .int .i64 x.K.N]) := HX9.out.keep (blk_setCell_other _ _ _ (by show gx ≠ gb; have := HGXB.out; omega))
                 have m0 := HP9.out.arr.cell (boolsV_get (isL_now HKI.out.1))
                 have m1 := HP9.out.arr.frozen k
                 have m2 := HP9.out.arr.lt
                 go_wp2_with fail
                 all_goals refine NoPanic.normal ?_
                 all_goals go_wp2_with fail
                 all_goals go_meet
                 all_goals exact ⟨HPU.out, HXU.out⟩
               · skip
                 refine opGoal_off (by repeat (first | with_reducible exact nth_zero | with_reducible apply nth_succ)) (by rfl) (isC HC6.out) ?_
                 simp only [Act.put, List.setIfInBounds_toArray, List.set_cons_succ, List.set_cons_zero]
                 unfold wpTree
                 refine opGoal_off (by repeat (first | with_reducible exact nth_zero | with_reducible apply nth_succ)) (by rfl) (isC HC6.out) ?_
                 simp only [Act.put, List.setIfInBounds_toArray, List.set_cons_succ, List.set_cons_zero]
                 unfold wpTree
                 refine opGoal_off (by repeat (first | with_reducible exact nth_zero | with_reducible apply nth_succ)) (by rfl) (isC HC6.out) ?_
                 simp only [Act.put, List.setIfInBounds_toArray, List.set_cons_succ, List.set_cons_zero]
                 unfold wpTree
                 refine opGoal_off (by repeat (first | with_reducible exact nth_zero | with_reducible apply nth_succ)) (by rfl) (isC HC6.out) ?_
                 simp only [Act.put, List.setIfInBounds_toArray, List.set_cons_succ, List.set_cons_zero]
                 unfold wpTree
                 refine opGoal_mkG (by repeat (first | with_reducible exact nth_zero | with_reducible apply nth_succ)) (by rfl) fun RR HRR => ?_
                 go_wp2_with fail
                 refine AfterT.normal (HRR _ _ (isC HC6.out) ?_)
                 clear HRR RR
                 refine tree_done ?_
                 have HP9 := Lib.hid (HPE5.out.call HB6.out)
                 have HX9 : Hid (Row w6 gx 43 #[.int .i64 x.Op, .int .i64 x.A, .int .i64 x.B, .int .i64 x.C, .int .i64 x.N, .int .i64 x.Exit, .int .i64 x.K.Kind, .int .i64 x.K.N]) := HX5.out.keep (HB6.out.block _ HX5.out.lt)
                 have HPU : Hid (PE S w T t nI gb gi v (toL t nI k) ((isL t nI k).set k (false && !q)) (w6.setCell ⟨gb, k, none⟩ (.bool (false)))) := by
                  have h := HP9.out.put k (false)
                  first | exact h | (rw [Bool.true_and]; exact h) | (rw [Bool.false_and]; exact h)
                 have HXU : Hid (Row (w6.setCell ⟨gb, k, none⟩ (.bool (false))) gx 43 #[.int .i64 x.Op, .int .i64 x.A, .int .i64 x.B, .int .i64 x.C, .int .i64 x.N, .int .i64 x.Exit, .int .i64 x.K.Kind, .int .i64 x.K.N]) := HX9.out.keep (blk_setCell_other _ _ _ (by show gx ≠ gb; have := HGXB.out; omega))
                 have m0 := HP9.out.arr.cell (boolsV_get (isL_now HKI.out.1))
                 have m1 := HP9.out.arr.frozen k
                 have m2 := HP9.out.arr.lt
                 go_wp2_with fail
                 all_goals refine NoPanic.normal ?_
                 all_goals go_wp2_with fail
                 all_goals go_meet
                 all_goals exact ⟨HPU.out, HXU.out⟩
            | true =>
              as_aux_lemma =>
               have HBD : Hid (Below w5.heap.size w5 w5.drew) := (Below.refl _ _).drew
               obtain ⟨C0, HCC⟩ : ∃ C0 : World → Prop, Hid (∀ W, C0 W ↔ Below w5.heap.size w5 W) := ⟨_, fun _ => Iff.rfl⟩
               have HC0 : Hid (C0 w5.drew) := (HCC.out _).2 HBD.out
               have HNEC : Nonempty (HeldW C0) := ⟨⟨_, HC0.out⟩⟩
               have HDT : Hid (∀ W, (∃ d : HeldW C0, W = d.val) → Row W (w.heap.size + 1) 34 T) := fun W ⟨d, hd⟩ => by rw [hd]; exact (HPE5.out.call ((HCC.out _).1 d.ok)).pd.rt
               have HDX : Hid (∀ W, (∃ d : HeldW C0, W = d.val) → Row W gx 43 #[.int .i64 x.Op, .int .i64 x.A, .int .i64 x.B, .int .i64 x.C, .int .i64 x.N, .int .i64 x.Exit, .int .i64 x.K.Kind, .int .i64 x.K.N]) := fun W ⟨d, hd⟩ => by rw [hd]; exact HX5.out.keep (((HCC.out _).1 d.ok).block _ HX5.out.lt)
               refine wp_region_tree C0 (.quiet 0 (.quiet 1 (.quiet 2 (.quiet 3 (.op 4 (.quiet 5 (.quiet 6 (.both 7 (.op 8 (.op 9 (.op 10 (.op 11 .tail)))) 8 (.op 7 (.op 9 (.op 10 (.op 11 .tail)))))))))))) 12 30 (by kernel_rfl) (by kernel_rfl) (by kernel_rfl) (by kernel_rfl) HC0.out ?_
               simp only [List.drop_succ_cons, List.drop_zero]
               have hdi : ∀ d : HeldW C0, d.val.cell? ⟨gi, 0, none⟩ = some (.slice (some ⟨gb, 0, none⟩) nI nI) := fun d => (HPE5.out.call ((HCC.out _).1 d.ok)).box.cell (j := 0) rfl
               have hdl : ∀ d : HeldW C0, gi < d.val.heap.size := fun d => (HPE5.out.call ((HCC.out _).1 d.ok)).box.lt
               refine tree_quiet (by repeat (first | with_reducible exact nth_zero | with_reducible apply nth_succ)) ?_
               go_big_quiet_step (fail)
               refine wpQuiet_nil ?_
               refine tree_quiet (by repeat (first | with_reducible exact nth_zero | with_reducible apply nth_succ)) ?_
               go_big_quiet_step (fail)
               refine wpQuiet_nil ?_
               refine tree_quiet (by repeat (first | with_reducible exact nth_zero | with_reducible apply nth_succ)) ?_
               go_big_quiet_want
               (first | (with_reducible refine qldT rfl rfl HDT.out hsT ?_; simp only [Act.put, List.setIfInBounds_toArray, List.set_cons_succ, List.set_cons_zero]))
               go_big_quiet_on
               refine wpQuiet_nil ?_
               refine tree_quiet (by repeat (first | with_reducible exact nth_zero | with_reducible apply nth_succ)) ?_
               go_big_quiet_want
               (first | (with_reducible refine qldI rfl rfl HDX.out rfl ?_; simp only [Act.put, List.setIfInBounds_toArray, List.set_cons_succ, List.set_cons_zero]))
               go_big_quiet_on
               refine wpQuiet_nil ?_
               unfold wpTree
               refine opGoal_mkG (by repeat (first | with_reducible exact nth_zero | with_reducible apply nth_succ)) (by rfl) fun RR HRR => ?_
               go_wp2_with (go_at_call 49; refine (HFI.out _ HBD.out).mono ?_; rintro e w6 ⟨rfl, hb⟩; have HB6 := Lib.hid (HBD.out.trans (hb.mono HBD.out.size)); clear hb)
               have HC6 : Hid (C0 w6) := (HCC.out _).2 HB6.out
               refine AfterT.normal (HRR _ _ (isC HC6.out) ?_)
               clear HRR RR
               refine tree_quiet (by repeat (first | with_reducible exact nth_zero | with_reducible apply nth_succ)) ?_
               go_big_quiet_step (fail)
               refine wpQuiet_nil ?_
               refine tree_quiet (by repeat (first | with_reducible exact nth_zero | with_reducible apply nth_succ)) ?_
               go_big_quiet_want
               (first | (with_reducible refine qldI rfl rfl HDX.out rfl ?_; simp only [Act.put, List.setIfInBounds_toArray, List.set_cons_succ, List.set_cons_zero]))
               go_big_quiet_on
               refine wpQuiet_nil ?_
               clear hdi hdl
               refine tree_both ?_ ?_
               · skip
                 refine opGoal_mkG (by repeat (first | with_reducible exact nth_zero | with_reducible apply nth_succ)) (by rfl) fun RR HRR => ?_
                 go_wp2_with (go_at_call 28; refine (HA1.out _).mono ?_; rintro e w7 ⟨⟨a9, c9, rfl, -, har⟩, hb⟩; have HAR : Hid (Arr (fun b => b < w7.heap.size) w7 a9 (asksOf x)) := har.mono (fun b h => h.2); have HB7 := Lib.hid (HB6.out.trans (hb.mono HB6.out.size)); clear har hb)
                 have HC7 : Hid (C0 w7) := (HCC.out _).2 HB7.out
                 refine AfterT.normal (HRR _ _ (isC HC7.out) ?_)
                 clear HRR RR
                 unfold wpTree
                 refine opGoal_mkG (by repeat (first | with_reducible exact nth_zero | with_reducible apply nth_succ)) (by rfl) fun RR HRR => ?_
                 go_wp2_with fail
                 refine AfterT.normal (HRR _ _ (isC HC7.out) ?_)
                 clear HRR RR
                 unfold wpTree
                 refine opGoal_mkG (by repeat (first | with_reducible exact nth_zero | with_reducible apply nth_succ)) (by rfl) fun RR HRR => ?_
                 go_wp2_with (go_at_call 50; refine (HCO.out _ _ _ HB7.out HAR.out).mono ?_; rintro e w8 ⟨rfl, hb⟩; have HB8 := Lib.hid (HB7.out.trans (hb.mono HB7.out.size)); clear hb)
                 have HC8 : Hid (C0 w8) := (HCC.out _).2 HB8.out
                 refine AfterT.normal (HRR _ _ (isC HC8.out) ?_)
                 clear HRR RR
                 unfold wpTree
                 refine opGoal_mkG (by repeat (first | with_reducible exact nth_zero | with_reducible apply nth_succ)) (by rfl) fun RR HRR => ?_
                 go_wp2_with fail
                 refine AfterT.normal (HRR _ _ (isC HC8.out) ?_)
                 clear HRR RR
                 unfold wpTree
                 refine opGoal_mkG (by repeat (first | with_reducible exact nth_zero | with_reducible apply nth_succ)) (by rfl) fun RR HRR => ?_
                 go_wp2_with fail
                 refine AfterT.normal (HRR _ _ (isC HC8.out) ?_)
                 clear HRR RR
                 refine tree_done ?_
                 have HP9 := Lib.hid (HPE5.out.call HB8.out)
                 have HX9 : Hid (Row w8 gx 43 #[.int .i64 x.Op, .int .i64 x.A, .int .i64 x.B, .int .i64 x.C, .int .i64 x.N, .int .i64 x.Exit, .int .i64 x.K.Kind, .int .i64 x.K.N]) := HX5.out.keep (HB8.out.block _ HX5.out.lt)
                 have HPU : Hid (PE S w T t nI gb gi v (toL t nI k) ((isL t nI k).set k (true && !q)) (w8.setCell ⟨gb, k, none⟩ (.bool (!q)))) := by
                  have h := HP9.out.put k (!q)
                  first | exact h | (rw [Bool.true_and]; exact h) | (rw [Bool.false_and]; exact h)
                 have HXU : Hid (Row (w8.setCell ⟨gb, k, none⟩ (.bool (!q))) gx 43 #[.int .i64 x.Op, .int .i64 x.A, .int .i64 x.B, .int .i64 x.C, .int .i64 x.N, .int .i64 x.Exit, .int .i64 x.K.Kind, .int .i64 x.K.N]) := HX9.out.keep (blk_setCell_other _ _ _ (by show gx ≠ gb; have := HGXB.out; omega))
                 have m0 := HP9.out.arr.cell (boolsV_get (isL_now HKI.out.1))
                 have m1 := HP9.out.arr.frozen k
                 have m2 := HP9.out.arr.lt
                 go_wp2_with fail
                 all_goals refine NoPanic.normal ?_
                 all_goals go_wp2_with fail
                 all_goals go_meet
                 all_goals exact ⟨HPU.out, HXU.out⟩
               · skip
                 refine opGoal_mkG (by repeat (first | with_reducible exact nth_zero | with_reducible apply nth_succ)) (by rfl) fun RR HRR => ?_
                 go_wp2_with fail
                 refine AfterT.normal (HRR _ _ (isC HC6.out) ?_)
                 clear HRR RR
                 unfold wpTree
                 refine opGoal_mkG (by repeat (first | with_reducible exact nth_zero | with_reducible apply nth_succ)) (by rfl) fun RR HRR => ?_
                 go_wp2_with (go_at_call 28; refine (HA1.out _).mono ?_; rintro e w7 ⟨⟨a9, c9, rfl, -, har⟩, hb⟩; have HAR : Hid (Arr (fun b => b < w7.heap.size) w7 a9 (asksOf x)) := har.mono (fun b h => h.2); have HB7 := Lib.hid (HB6.out.trans (hb.mono HB6.out.size)); clear har hb)
                 have HC7 : Hid (C0 w7) := (HCC.out _).2 HB7.out
                 refine AfterT.normal (HRR _ _ (isC HC7.out) ?_)
                 clear HRR RR
                 unfold wpTree
                 refine opGoal_mkG (by repeat (first | with_reducible exact nth_zero | with_reducible apply nth_succ)) (by rfl) fun RR HRR => ?_
                 go_wp2_with (go_at_call 50; refine (HCO.out _ _ _ HB7.out HAR.out).mono ?_; rintro e w8 ⟨rfl, hb⟩; have HB8 := Lib.hid (HB7.out.trans (hb.mono HB7.out.size)); clear hb)
                 have HC8 : Hid (C0 w8) := (HCC.out _).2 HB8.out
                 refine AfterT.normal (HRR _ _ (isC HC8.out) ?_)
                 clear HRR RR
                 unfold wpTree
                 refine opGoal_mkG (by repeat (first | with_reducible exact nth_zero | with_reducible apply nth_succ)) (by rfl) fun RR HRR => ?_
                 go_wp2_with fail
                 refine AfterT.normal (HRR _ _ (isC HC8.out) ?_)
                 clear HRR RR
                 unfold wpTree
                 refine opGoal_mkG (by repeat (first | with_reducible exact nth_zero | with_reducible apply nth_succ)) (by rfl) fun RR HRR => ?_
                 go_wp2_with fail
                 refine AfterT.normal (HRR _ _ (isC HC8.out) ?_)
                 clear HRR RR
                 refine tree_done ?_
                 have HP9 := Lib.hid (HPE5.out.call HB8.out)
                 have HX9 : Hid (Row w8 gx 43 #[.int .i64 x.Op, .int .i64 x.A, .int .i64 x.B, .int .i64 x.C, .int .i64 x.N, .int .i64 x.Exit, .int .i64 x.K.Kind, .int .i64 x.K.N]) := HX5.out.keep (HB8.out.block _ HX5.out.lt)
                 have HPU : Hid (PE S w T t nI gb gi v (toL t nI k) ((isL t nI k).set k (true && !q)) (w8.setCell ⟨gb, k, none⟩ (.bool (!q)))) := by
                  have h := HP9.out.put k (!q)
                  first | exact h | (rw [Bool.true_and]; exact h) | (rw [Bool.false_and]; exact h)
                 have HXU : Hid (Row (w8.setCell ⟨gb, k, none⟩ (.bool (!q))) gx 43 #[.int .i64 x.Op, .int .i64 x.A, .int .i64 x.B, .int .i64 x.C, .int .i64 x.N, .int .i64 x.Exit, .int .i64 x.K.Kind, .int .i64 x.K.N]) := HX9.out.keep (blk_setCell_other _ _ _ (by show gx ≠ gb; have := HGXB.out; omega))
                 have m0 := HP9.out.arr.cell (boolsV_get (isL_now HKI.out.1))
                 have m1 := HP9.out.arr.frozen k
                 have m2 := HP9.out.arr.lt
                 go_wp2_with fail
                 all_goals refine NoPanic.normal ?_
                 all_goals go_wp2_with fail
                 all_goals go_meet
                 all_goals exact ⟨HPU.out, HXU.out⟩
           case rest =>
            obtain ⟨hpe, hrow⟩ := hcut
            obtain ⟨b, hb⟩ : ∃ b, b = (f && !q) := ⟨_, rfl⟩
            rw [← hb] at hpe HFQ
            obtain ⟨te, hte⟩ : ∃ te, te = tellsOf x.Op := ⟨_, rfl⟩
            have HTL : Hid (∀ W', Calls Tryd.prog 29 #[.int .i64 x.Op] W' fun e w' => e = .returned (.bool te) ∧ Below W'.heap.size W' w') := fun W' => by rw [hte]; exact tells_any
            rw [← hte] at HFQ
            have HPC := Lib.hid hpe
            have hset : ((isL t nI k).set k b)[k]? = some b := by rw [List.getElem?_set_self (by rw [isL_len (by omega)]; omega)]
            have g0 := hpe.box.cell (j := 0) rfl
            have g1 := hpe.box.lt
            have g2 := hpe.arr.cell (boolsV_get hset)
            have g3 := hpe.arr.lt
            have y0 := hrow.cell (j := 0) rfl
            have y1 := hrow.lt
            have HLEN : Hid ((toL t nI k).length + 1 ≤ 1000000000) := by show _ ≤ _; rw [toL_len]; omega
            have hwk : IntKind.i64.wrap ((nI : Int) + (k : Int)) = (nI : Int) + (k : Int) := by rw [IntWalk.i64_in _ (by omega)]
            clear hpe hrow hb hte hset HA1 HFI HCO HX5 HPE5
            cases b with
            | false =>
              as_aux_lemma =>
               have HVAL : Hid (peelAt t k = (nI : Int) + (k : Int)) := by show _ = _; rw [HFQ.out.2]; simp
               have HIV : Hid (∀ W, Rep.cells (fun _ => False) W [.int .i64 ((nI : Int) + (k : Int))] ((nI : Int) + (k : Int) : Int)) := fun W => ⟨rfl, by unfold I64; omega⟩
               have HO := Lib.hid HPC.out.pd.nums
               have HFR : Hid (w.heap.size + 3 ≤ wc.heap.size) := HPC.out.pd.far
               go_wp2_with (at_builtin; (with_reducible refine Tryd.wp_appd58 (S := fun _ => False) (v := v) (xs := toL t nI k) (y := ((nI : Int) + (k : Int) : Int)) (w0 := wc) rfl rfl (by with_unfolding_all rfl) rfl rfl (by first | rfl | omega) HO.out (HIV.out _) (fun _ h => h.elim) HLEN.out HFR.out fun v6 w6 hown6 hg6 hst6 => ?_); have HN6 := Lib.hid (HPC.out.add hown6 hg6 hst6); clear hown6 hg6 hst6)
               go_roundw
               case rel => exact ⟨k + 1, _, rfl, by omega, by go_num, by rw [← HFQ.out.1, ← toL_succ, HVAL.out]; exact HN6.out⟩
               case measure => simp [intOf]; omega
            | true =>
              cases te with
              | true =>
                as_aux_lemma =>
                 have HVAL : Hid (peelAt t k = (k : Int)) := by show _ = _; rw [HFQ.out.2]; simp
                 have HIV : Hid (∀ W, Rep.cells (fun _ => False) W [.int .i64 ((k : Int))] ((k : Int) : Int)) := fun W => ⟨rfl, by unfold I64; omega⟩
                 go_wp2_with (first
                  | (go_at_call 29; refine (HTL.out _).mono ?_; rintro e w10 ⟨rfl, hb⟩; have HP10 := Lib.hid (HPC.out.call hb); have HO := Lib.hid HP10.out.pd.nums; have HFR : Hid (w.heap.size + 3 ≤ w10.heap.size) := HP10.out.pd.far; clear hb)
                  | (at_builtin; (with_reducible refine Tryd.wp_appd58 (S := fun _ => False) (v := v) (xs := toL t nI k) (y := ((k : Int) : Int)) (w0 := w10) rfl rfl (by with_unfolding_all rfl) rfl rfl (by first | rfl | omega) HO.out (HIV.out _) (fun _ h => h.elim) HLEN.out HFR.out fun v6 w6 hown6 hg6 hst6 => ?_); have HN6 := Lib.hid (HP10.out.add hown6 hg6 hst6); clear hown6 hg6 hst6))
                 go_roundw
                 case rel => exact ⟨k + 1, _, rfl, by omega, by go_num, by rw [← HFQ.out.1, ← toL_succ, HVAL.out]; exact HN6.out⟩
                 case measure => simp [intOf]; omega
              | false =>
                as_aux_lemma =>
                 have HVAL : Hid (peelAt t k = (-1 : Int)) := by show _ = _; rw [HFQ.out.2]; simp
                 have HIV : Hid (∀ W, Rep.cells (fun _ => False) W [.int .i64 ((-1 : Int))] ((-1 : Int) : Int)) := fun W => ⟨rfl, by unfold I64; omega⟩
                 go_wp2_with (first
                  | (go_at_call 29; refine (HTL.out _).mono ?_; rintro e w10 ⟨rfl, hb⟩; have HP10 := Lib.hid (HPC.out.call hb); have HO := Lib.hid HP10.out.pd.nums; have HFR : Hid (w.heap.size + 3 ≤ w10.heap.size) := HP10.out.pd.far; clear hb)
                  | (at_builtin; (with_reducible refine Tryd.wp_appd58 (S := fun _ => False) (v := v) (xs := toL t nI k) (y := ((-1 : Int) : Int)) (w0 := w10) rfl rfl (by with_unfolding_all rfl) rfl rfl (by first | rfl | omega) HO.out (HIV.out _) (fun _ h => h.elim) HLEN.out HFR.out fun v6 w6 hown6 hg6 hst6 => ?_); have HN6 := Lib.hid (HP10.out.add hown6 hg6 hst6); clear hown6 hg6 hst6))
                 go_roundw
                 case rel => exact ⟨k + 1, _, rfl, by omega, by go_num, by rw [← HFQ.out.1, ← toL_succ, HVAL.out]; exact HN6.out⟩
                 case measure => simp [intOf]; omega
        · as_aux_lemma =>
           obtain rfl : nI = k := by omega
           have HPC := Lib.hid hpe.pd
           have htl : toL t nI nI = peelTo t := by unfold toL peelTo; rw [HLI.out]
           obtain ⟨a, cap, hv, -, -, harr⟩ := hpe.pd.nums.arr
           have hlen := toL_len t nI nI
           rw [htl] at hv harr hlen
           obtain ⟨n9, hn9⟩ : ∃ n, n = (peelTo t).length := ⟨_, rfl⟩
           rw [← hn9] at hv
           subst hv
           have HRTR := Lib.hid hpe.pd.rt
           have HTW := Lib.hid (twice_any hpe.pd.ret (fun b hb' => Nat.lt_of_lt_of_le (hpe.pd.dom b hb') hpe.pd.below.size) HR.out)
           have HCUT : Hid (∀ W2 (C2 : Array Value), Rep.cells (fun k => k < W2.heap.size) W2 C2.toList (twiceT t) → Below wr.heap.size wr W2 → Calls Tryd.prog 37 #[.agg C2, .slice a n9 cap] W2 (PassOut W2 (cutT (twiceT t) (peelTo t), 0))) := fun W2 C2 hrep hb =>
            icut_out hrep (fun _ h => h) (harr.keep fun b hb' => hb.block b (hb'.elim False.elim (·.2))) (fun b hb' => Nat.lt_of_lt_of_le (hb'.elim False.elim (·.2)) hb.size) hn9.symm (twice_right HR.out (by rw [HLI.out]; omega) (by rw [HLE.out]; omega)) (peel_right t) (peel_fine HR.out (by rw [HLI.out]; omega) (by rw [HLE.out]; omega))
           clear hpe harr hn9 htl hlen HPE
           go_wp2_with (first
            | (with_reducible refine ldT rfl rfl rfl HRTR.out hsT ?_)
            | (go_at_call 52; (with_reducible refine HTW.out.mono ?_); rintro e w6 ⟨C2, hD1, hD2, rfl, hr6, hb6⟩; have HB6 := Lib.hid hb6; have HCU := Lib.hid (HCUT.out w6 C2 hr6 hb6); clear hD1 hD2 hr6 hb6)
            | (go_at_call 37; (with_reducible refine HCU.out.mono ?_); rintro e w7 ⟨C, hC1, hC2, rfl, hr7, hb7⟩; have HC1 := Lib.hid hC1; have HC2 := Lib.hid hC2; have HR7 := Lib.hid hr7; have HB7 : Hid (Below wr.heap.size wr w7) := HB6.out.trans (hb7.mono HB6.out.size); have HS7 := Lib.hid (HPC.out.call HB7.out).res; have HZ7 : Hid (wr.heap.size ≤ w6.heap.size) := HB6.out.size; clear hC1 hC2 hr7 hb7)
            | (with_reducible refine stT (OLD := zeroTL.toArray) (C := C) rfl rfl rfl rfl HS7.out HC1.out rfl HC2.out ?_))
           have HYB : Hid (Row (w7.setRow (w.heap.size + 2) C) (w.heap.size + 2) 34 C) := setRow_heap _ _ _ _ _ _ HS7.out
           (try simp only [Exit.inBlock, Exit.then])
           have hfar := HPC.out.far
           have hz7 := HZ7.out
           refine bodyPost_ret (results_cell_slot rfl _ _ _ _ _ _ _ rfl rfl HYB.out Tryd.underlying34 rfl (infoT HC1.out)) rfl ?_
           unfold PassOut
           refine ⟨C, HC1.out, HC2.out, rfl, ?_, below_setRow (HPC.out.below.trans (HB7.out.mono HPC.out.below.size)) (by omega) _⟩
           show Rep.cells _ _ _ r
           rw [HRT9.out]
           have hss : (w7.setRow (w.heap.size + 2) C).heap.size = w7.heap.size := by simp [World.setRow]
           exact Rep.mono (fun j hj => ⟨by have := hj.1; omega, by rw [hss]; exact hj.2⟩) (Rep.keep (fun j hj => setRow_other _ _ _ _ (by have := hj.1; omega)) HR7.out)
end Go.Proofs.YtekofpigmggbbaaDoor.peel
