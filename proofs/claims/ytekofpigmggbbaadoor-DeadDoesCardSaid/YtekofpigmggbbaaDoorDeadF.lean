/- dead.Do: walked. -/
import Derived.Test.YtekofpigmggbbaaDoorDeadD
import Derived.Test.YtekofpigmggbbaaDoorPassB
import Derived.Test.YtekofpigmggbbaaDoorHeadA
import Derived.Deep.DeepCutAuto
import Derived.StillTailTactics
set_option linter.unusedVariables false
set_option linter.unusedSimpArgs false
namespace Go.Proofs.YtekofpigmggbbaaDoor.ded
open Go.Bk Go.RowKit Go.Proofs.YtekofpigmggbbaaDoor.ir Go.Proofs.YtekofpigmggbbaaDoor.chk Go.Proofs.YtekofpigmggbbaaDoor.cut Go.Proofs.YtekofpigmggbbaaDoor.pas
attribute [local go_sem ↓] Go.wp_at_zero Go.wp_at_succ
attribute [local go_sem] Oper.semAt_some
theorem postM_ret {n : Nat} {P : Program} {fn : Func} {R : Ending → World → Prop} {a : Act} {w : World} {v : Value} (hr : (results fn a.tmps).run P w = .ok v w) (hd : a.defers = []) (hR : R (.returned v) w) : bodyPostM Fence.wide n P fn R .ret a w := by
 show LeavesInM _ _ _ _ _ _ a.defers _ _
 rw [hd]
 exact ⟨v, hr, hR⟩
theorem nil_exits {S : Nat → Prop} {w : World} {T : Array Value} {t : Api.TTrace} {aE : Option Addr} {nE cE : Nat} (h : Rep.cells S w T.toList t) (h4 : T.toList[4]? = some (.slice aE nE cE)) : aE = none → cE = 0 := by
 obtain ⟨_, _, ⟨rfl, h0⟩, ⟨_, _, ⟨rfl, h1⟩, ⟨_, _, ⟨rfl, h2⟩, ⟨_, _, ⟨b3, d3, rfl, h3⟩, ⟨_, _, ⟨b4, d4, rfl, h5⟩, ⟨cT, cB, hT, hB, rfl⟩, rfl⟩, rfl⟩, rfl⟩, rfl⟩, he⟩ := h
 rw [he] at h4
 have h6 : Value.slice b4 t.Exits.length d4 = .slice aE nE cE := Option.some.inj h4
 injection h6 with e1 e2 e3
 intro hn
 rw [← e3]
 exact h5.2.1 (e1.trans hn)
theorem rep_exits {S S2 : Nat → Prop} {w : World} {T C : Array Value} {t : Api.TTrace} {xs : List Api.TExit} {a : Option Addr} {c : Nat} (h : Rep.cells S w T.toList t) (hS : ∀ b, S b → S2 b) (h1 : xs.length ≤ c) (h2 : a = none → c = 0) (h3 : Arr S2 w a xs) (hC : C.toList = T.toList.set 4 (.slice a xs.length c)) : Rep.cells S2 w C.toList (⟨t.Fn, t.At, t.Loop, t.Ins, xs, t.Turn, t.Back⟩ : Api.TTrace) := by
 have h := Rep.mono (S := S) (S' := S2) hS h
 obtain ⟨_, _, ⟨rfl, i0⟩, ⟨_, _, ⟨rfl, i1⟩, ⟨_, _, ⟨rfl, i2⟩, ⟨_, _, ⟨b3, d3, rfl, i3⟩, ⟨_, _, ⟨b4, d4, rfl, i5⟩, ⟨cT, cB, hT, hB, rfl⟩, rfl⟩, rfl⟩, rfl⟩, rfl⟩, he⟩ := h
 rw [hC, he]
 exact ⟨_, _, ⟨rfl, i0⟩, ⟨_, _, ⟨rfl, i1⟩, ⟨_, _, ⟨rfl, i2⟩, ⟨_, _, ⟨b3, d3, rfl, i3⟩, ⟨_, _, ⟨a, c, rfl, h1, h2, h3⟩, ⟨cT, cB, hT, hB, rfl⟩, rfl⟩, rfl⟩, rfl⟩, rfl⟩, rfl⟩
theorem bare_at {t : Api.TTrace} {k : Nat} {x : Api.TExit} (hx : t.Exits[k]? = some x) : (bareT t).Exits[k]? = some (bareAt t.Ins k x) := by
 show (t.Exits.mapIdx _)[k]? = _
 simp [hx]
theorem rows3z (w : World) (o1 o2 o3 : Array Value) (t1 t2 t3 : TypeId) (W : World) (hW : W = ((w.alloc (.cells o1 t1)).alloc (.cells o2 t2)).alloc (.cells o3 t3)) : W.heap.size = w.heap.size + 3 := by rw [hW]; simp
set_option maxRecDepth 100000 in
set_option maxHeartbeats 8000000 in
theorem ddo_any {S : Nat → Prop} {w : World} {P T : Array Value} {p : Api.Prog} {t : Api.TTrace} (hp : Rep.cells S w P.toList p) (ht : Rep.cells S w T.toList t) (hS : ∀ b, S b → b < w.heap.size) (hA : cod.Asc w) :
 Calls Tryd.prog 17 #[.agg P, .agg T] w (PassOut w (doR p t (cutT (bareT t) (deadTo (bareT t))))) := by
 obtain ⟨a0, nF, c0, hP⟩ := pin_of hp
 obtain ⟨aI, nI, cI, aE, nE, cE, a7, n7, c7, a8, n8, c8, b7, m7, d7, b8, m8, d8, hall⟩ := tall_of ht
 have hsP := hP.size
 have hsT : T.size = 13 := rep_size ht
 obtain ⟨w1, hw1⟩ : ∃ w1, w1 = ((w.alloc (.cells P 26)).alloc (.cells T 34)).alloc (.cells #[.int .i64 0, .int .i64 0, .int .i64 0, .slice none 0 0, .slice none 0 0, .int .i64 0, .int .i64 0, .slice none 0 0, .slice none 0 0, .int .i64 0, .int .i64 0, .slice none 0 0, .slice none 0 0] 34) := ⟨_, rfl⟩
 obtain ⟨rP, rT, rC, hb1⟩ := rows3 w P T #[.int .i64 0, .int .i64 0, .int .i64 0, .slice none 0 0, .slice none 0 0, .int .i64 0, .int .i64 0, .slice none 0 0, .slice none 0 0, .int .i64 0, .int .i64 0, .slice none 0 0, .slice none 0 0] _ _ _ w1 hw1
 have hz1 := rows3z w P T #[.int .i64 0, .int .i64 0, .int .i64 0, .slice none 0 0, .slice none 0 0, .int .i64 0, .int .i64 0, .slice none 0 0, .slice none 0 0, .int .i64 0, .int .i64 0, .slice none 0 0, .slice none 0 0] _ _ _ w1 hw1
 have HRP := Lib.hid rP; have HRT := Lib.hid rT
 have HRS : Hid (Row w1 (w.heap.size + 2) 34 zeroTL.toArray) := rC
 have HB1 := Lib.hid hb1
 have hk : ∀ b, S b → w1.heap[b]? = w.heap[b]? := fun b hb' => hb1.block b (hS b hb')
 have HDOM := Lib.hid hS
 have HAL : Hid (∀ W, Below w.heap.size w W → TAll S W T t aI nI cI aE nE cE a7 n7 c7 a8 n8 c8 b7 m7 d7 b8 m8 d8) := fun W hb => hall.keep fun b hb' => hb.block b (hS b hb')
 have HTE : Hid (∀ W, Below w.heap.size w W → Rep.cells S W T.toList t) := fun W hb => Rep.keep (fun b hb' => hb.block b (hS b hb')) ht
 have HI3 : Hid (T.toList[3]? = some (.slice aI nI cI)) := by show _ = _; rw [hall.eq]; rfl
 have HI4 : Hid (T.toList[4]? = some (.slice aE nE cE)) := by show _ = _; rw [hall.eq]; rfl
 have HTQ := Lib.hid hall.eq
 have HNI : Hid (nI = t.Ins.length) := hall.lenI.symm
 have HNE : Hid (nE = t.Exits.length) := hall.lenE.symm
 have hfI := hall.fewI; have hfE := hall.fewE
 have HLO : Hid (T.toList[2]? = some (.int .i64 t.Loop)) := by show _ = _; rw [hall.eq]; rfl
 obtain ⟨q, hq⟩ : ∃ q, q = chkAll p t := ⟨_, rfl⟩
 have HIC : Hid (Calls Tryd.prog 35 #[.agg P, .agg T] w1 fun e w' => e = .returned (.int .i64 q) ∧ Below w1.heap.size w1 w') := by
  rw [hq]
  exact icheck_any (Rep.keep hk hp) (Rep.keep hk ht) (fun b hb' => Nat.lt_of_lt_of_le (hS b hb') hb1.size) (hA.keep hb1)
 have HZO : Hid ((zeroTL.toArray).all (·.oneCell') = true) := by show _ = _; simp [zeroTL, Value.oneCell']
 refine (callsIn_wide (n := 10)).1 ?_
 refine callsIn_of_wp_marks Tryd.func17 rfl trivial ?_ rfl
 simp only [Tryd.ntmps17, List.size_toArray, List.length_cons, List.length_nil, Nat.reduceAdd, Nat.reduceSub, Array.replicate_succ, Array.replicate_zero, List.push_toArray, List.append_toArray, List.nil_append, List.cons_append]
 refine wpIn_wide.2 ?_
 obtain ⟨QQ, hQQ⟩ : ∃ Q, Q = bodyPostM Fence.wide 10 Tryd.prog Tryd.f17 (PassOut w (doR p t (cutT (bareT t) (deadTo (bareT t))))) := ⟨_, rfl⟩
 rw [← hQQ]
 have HQQ := Lib.hid hQQ
 clear hQQ
 by_cases hq0 : q = 0
 case neg =>
  as_aux_lemma =>
   have hne : (q != 0) = true := by simpa using hq0
   have HDR : Hid (doR p t (cutT (bareT t) (deadTo (bareT t))) = (zeroT, q)) := by show _ = _; rw [doR_no (by rw [← hq]; exact hq0), hq]
   clear hP hall hp ht hS hA rP rT rC hb1 hk hq hq0 hz1 HAL HTE
   go_upto_region 1 with fail
   rw [← hw1, show w.heap.size + 1 + 1 = w.heap.size + 2 from rfl]
   clear hw1
   go_wp2_with (first
    | (with_reducible refine ldP rfl rfl rfl HRP.out hsP ?_)
    | (with_reducible refine ldT rfl rfl rfl HRT.out hsT ?_)
    | (go_at_call 35; (with_reducible refine HIC.out.mono ?_); rintro e w2 ⟨rfl, hb2⟩; have HB2 := Lib.hid hb2; have HRS2 := Lib.hid (HRS.out.keep (hb2.block _ HRS.out.lt)); clear hb2)
    | (with_reducible refine stT (OLD := zeroTL.toArray) (C := zeroTL.toArray) rfl rfl rfl rfl HRS2.out rfl rfl HZO.out ?_))
   have HYB : Hid (Row (w2.setRow (w.heap.size + 2) zeroTL.toArray) (w.heap.size + 2) 34 zeroTL.toArray) := setRow_heap _ _ _ _ _ _ HRS2.out
   (try simp only [Exit.inBlock, Exit.then])
   rw [HQQ.out]
   refine postM_ret (results_cell_slot rfl _ _ _ _ _ _ _ rfl rfl HYB.out Tryd.underlying34 rfl rfl) rfl ?_
   rw [HDR.out]
   unfold PassOut
   exact ⟨zeroTL.toArray, rfl, HZO.out, rfl, zero_cells _ _, below_setRow (HB1.out.trans (HB2.out.mono HB1.out.size)) (by omega) _⟩
 case pos =>
  have h0 : chkAll p t = 0 := by rw [← hq]; exact hq0
  have hr := right_all h0
  have HQ : Hid (∀ (C : Array Value) (a : Act) (W : World) (D : Nat), W.heap[D]? = some (.deferred (some [])) → a.defers = [{ target := .collected D, args := #[] }] → C.size = 13 → C.all (·.oneCell') = true → (results Tryd.f17 a.tmps).run Tryd.prog (W.putObj D (.deferred none)) = .ok (.tuple #[.agg C, .int .i64 0]) (W.putObj D (.deferred none)) → Rep.cells (Fresh w (W.putObj D (.deferred none))) (W.putObj D (.deferred none)) C.toList (cutT (bareT t) (deadTo (bareT t))) → Below w.heap.size w (W.putObj D (.deferred none)) → QQ .ret a W) := fun C a W D hD h4 h1 h2 h3 h5 h6 => by
   rw [HQQ.out]
   show LeavesInM _ _ _ _ _ _ a.defers _ _
   rw [h4]
   refine leaves_taken hD ⟨_, h3, ?_⟩
   rw [doR_yes h0]
   exact ⟨C, h1, h2, rfl, h5, h6⟩
  have HR := Lib.hid hr
  obtain ⟨tt, htt⟩ : ∃ tt, tt = bareT t := ⟨_, rfl⟩
  have HRB : Hid (RightT tt) := by show RightT tt; rw [htt]; exact bare_right hr
  have HTI : Hid (tt.Ins = t.Ins) := by show _ = _; rw [htt]; rfl
  have HTX : Hid (∀ k x, t.Exits[k]? = some x → tt.Exits[k]? = some (bareAt t.Ins k x)) := fun k x hx => by rw [htt]; exact bare_at hx
  have HTT := Lib.hid htt
  have HTE9 : Hid (tt.Turn = t.Turn ∧ tt.Back = t.Back ∧ tt.Loop = t.Loop ∧ tt.Exits.length = t.Exits.length) := by show _ ∧ _; rw [htt]; exact ⟨rfl, rfl, rfl, by show (t.Exits.mapIdx _).length = _; simp⟩
  have HNX := Lib.hid (nil_exits ht HI4.out)
  have hfi : nI ≤ 300 := by rw [← hall.lenI]; exact hr.few
  have hfe : nE ≤ 200 := by rw [← hall.lenE]; exact hr.fewE
  subst hq0
  have HWH : Hid (w1.heap.size = w.heap.size + 3) := hz1
  clear hP hall hp ht hS hA rP rT rC hb1 hk hq h0 hr hz1 HZO HQQ htt
  go_upto_region 1 with fail
  rw [← hw1, show w.heap.size + 1 + 1 = w.heap.size + 2 from rfl]
  clear hw1
  go_upto_region 4 with (first
   | (with_reducible refine ldP rfl rfl rfl HRP.out hsP ?_)
   | (with_reducible refine ldT rfl rfl rfl HRT.out hsT ?_)
   | (go_at_call 35; (with_reducible refine HIC.out.mono ?_); rintro e w2 ⟨rfl, hb2⟩; have HB2 := Lib.hid hb2; clear hb2))
  have HRK : Hid (∀ W, Below w2.heap.size w2 W → Row W (w.heap.size + 1) 34 T ∧ Row W (w.heap.size + 2) 34 zeroTL.toArray ∧ Below w.heap.size w W) := fun W hb => by
   have hb' : Below w1.heap.size w1 W := HB2.out.trans (hb.mono HB2.out.size)
   exact ⟨HRT.out.keep (hb'.block _ HRT.out.lt), HRS.out.keep (hb'.block _ HRS.out.lt), HB1.out.trans (hb'.mono HB1.out.size)⟩
  have t4 := (HRK.out w2 (Below.refl _ _)).1.cell HI4.out
  have l4 := (HRK.out w2 (Below.refl _ _)).1.lt
  have HW2 : Hid (w.heap.size + 3 ≤ w2.heap.size) := by show _ ≤ _; rw [← HWH.out]; exact HB2.out.size
  clear HRP HRT HRS HIC HB1 HB2 HWH
  go_upto_region 5 with (with_reducible refine wp_make (n := nE) rfl rfl Tryd.underlying87 Tryd.info4 rfl rfl rfl (by omega) (by unfold maxLen; omega) fun w3 hblk hbel hsz => ?_; have HU0 := Lib.hid hblk; have HB3 := Lib.hid hbel; clear hblk hbel hsz)
  have HU3 : Hid (Blk w3 w2.heap.size 4 (boolsV (usedL t nE 0))) := by show Blk _ _ _ _; rw [usedL_zero]; exact blk_false HU0.out
  clear HU0 t4 l4
  have t3 := (HRK.out w3 HB3.out).1.cell HI3.out
  have l3 := (HRK.out w3 HB3.out).1.lt
  obtain ⟨gu, hgu⟩ : ∃ g, g = w2.heap.size := ⟨_, rfl⟩
  rw [← hgu] at HU3 ⊢
  have HGU := Lib.hid hgu
  clear hgu
  go_wp2_with fail
  clear t3 l3
  go_loopw [31] (fun i W => ∃ k : Nat, k ≤ nI ∧ i = .int .i64 k ∧ Blk W gu 4 (boolsV (usedL t nE k)) ∧ Below w2.heap.size w2 W) (fun i _ => nI - (intOf i).toNat)
  case atStart => exact ⟨0, Nat.zero_le _, rfl, HU3.out, HB3.out⟩
  case round =>
   clear HU3 HB3
   obtain ⟨k, hk, rfl, hblk, hbr⟩ := hrel
   by_cases hlt : k < nI
   · as_aux_lemma =>
      obtain ⟨x, hx⟩ : ∃ x, t.Ins[k]? = some x := ⟨_, List.getElem?_eq_getElem (by rw [← HNI.out]; exact hlt)⟩
      have hal := HAL.out wr (HRK.out wr hbr).2.2
      obtain ⟨bi, oi, rfl, hSi, i0, i1, i2, i3, i4, i5, i6, i7, -⟩ := api_TIns_elem hal.ins hx
      have hbi : bi < wr.heap.size := Nat.lt_of_lt_of_le (HDOM.out _ hSi) (HRK.out wr hbr).2.2.size
      have hki : (k : Int) < (nI : Int) := by omega
      obtain ⟨w7, hw7⟩ : ∃ w7, w7 = wr.alloc (.cells #[.int .i64 x.Op, .int .i64 x.A, .int .i64 x.B, .int .i64 x.C, .int .i64 x.N, .int .i64 x.Exit, .int .i64 x.K.Kind, .int .i64 x.K.N] 43) := ⟨_, rfl⟩
      have hb7 : Below wr.heap.size wr w7 := by rw [hw7]; exact cod.below_al2 _
      have hrow := row_new wr #[.int .i64 x.Op, .int .i64 x.A, .int .i64 x.B, .int .i64 x.C, .int .i64 x.N, .int .i64 x.Exit, .int .i64 x.K.Kind, .int .i64 x.K.N] 43
      rw [← hw7] at hrow
      have z5 := hrow.cell (j := 5) rfl
      have lz := hrow.lt
      have HB7 : Hid (Below w2.heap.size w2 w7) := hbr.trans (hb7.mono hbr.size)
      have HBK : Hid (Blk w7 gu 4 (boolsV (usedL t nE k))) := hblk.keep (hb7.block _ hblk.lt)
      have HX := Lib.hid hx
      have hway := HR.out.way k x hx
      clear hblk hbr hal hx hSi hrow hb7
      go_upto_region 8 with fail
      rw [← hw7]
      clear hw7 i0 i1 i2 i3 i4 i5 i6 i7 hbi
      rcases hway with hm | ⟨h0, h1⟩
      · rw [hm] at z5
        have HNX : Hid (Blk w7 gu 4 (boolsV (usedL t nE (k + 1)))) := by show Blk _ _ _ _; rw [usedL_no HX.out (by omega)]; exact HBK.out
        clear hm
        go_wp2_with fail
        go_roundw
        case rel => exact ⟨k + 1, by omega, by go_num, HNX.out, HB7.out⟩
        case measure => simp [intOf]; omega
      · obtain ⟨e, he⟩ : ∃ e : Nat, x.Exit = e := ⟨x.Exit.toNat, by omega⟩
        rw [he] at z5
        have hen : e < nE := by rw [HNE.out]; omega
        have hei : (e : Int) < (nE : Int) := by omega
        have m0 := HBK.out.cell (boolsV_get (usedL_at (t := t) (k := k) hen))
        have m1 := HBK.out.frozen e
        have m2 := HBK.out.lt
        have HNX : Hid (Blk (w7.setCell ⟨gu, e, none⟩ (.bool true)) gu 4 (boolsV (usedL t nE (k + 1)))) := by
         show Blk _ _ _ _
         rw [← usedL_set HX.out he, ← boolsV_set]
         exact HBK.out.set e (.bool true)
        have HWX : Hid (Below w2.heap.size w2 (w7.setCell ⟨gu, e, none⟩ (.bool true))) := below_set HB7.out (by rw [HGU.out]; exact Nat.le_refl _)
        clear he h0 h1 hen
        go_wp2_with fail
        go_roundw
        case rel => exact ⟨k + 1, by omega, by go_num, HNX.out, HWX.out⟩
        case measure => simp [intOf]; omega
   · obtain rfl : nI = k := by omega
     have HUS : Hid (Blk wr gu 4 (boolsV (usedL t nE t.Ins.length))) := by show Blk _ _ _ _; rw [← HNI.out]; exact hblk
     have HBW := Lib.hid hbr
     have HGW : Hid (w.heap.size + 3 ≤ gu ∧ gu < wr.heap.size) := ⟨by rw [HGU.out]; exact HW2.out, hblk.lt⟩
     clear hblk hbr hk hlt
     have t3 := (HRK.out wr HBW.out).1.cell HI3.out
     have l3 := (HRK.out wr HBW.out).1.lt
     go_upto_region 12 with (with_reducible refine wp_make (n := nI) rfl rfl Tryd.underlying87 Tryd.info4 rfl rfl rfl (by omega) (by unfold maxLen; omega) fun w4 hblk hbel hsz => ?_; have HU0 := Lib.hid hblk; have HB4 := Lib.hid hbel; have HZ4 := Lib.hid hsz; clear hblk hbel hsz)
     clear t3 l3
     obtain ⟨ga, hga⟩ : ∃ g, g = wr.heap.size := ⟨_, rfl⟩
     obtain ⟨gb, hgb⟩ : ∃ g, g = w4.heap.size := ⟨_, rfl⟩
     have HB4' := Lib.hid HB4
     rw [← hga] at HU0 HGW HZ4 HB4 ⊢
     rw [← hgb] at HZ4 ⊢
     obtain ⟨w5, hw5⟩ : ∃ w5, w5 = (w4.alloc (.cells #[.slice (some ⟨ga, 0, none⟩) nI nI] 87)).alloc (.cells #[.func (.func 43) #[] #[.pointer (some ⟨gb, 0, none⟩)]] 88) := ⟨_, rfl⟩
     have hs5 : (w4.alloc (.cells #[.slice (some ⟨ga, 0, none⟩) nI nI] 87)).heap.size = gb + 1 := by rw [hgb]; simp
     have HZ5 : Hid (w5.heap.size = gb + 2) := by show _ = _; rw [hw5, hgb]; simp
     have HB5 : Hid (Below ga wr w5) := by
      show Below ga wr w5
      rw [hw5]
      have h4 : ga ≤ w4.heap.size := by have := HZ4.out; omega
      exact (HB4.out.alloc h4 _).alloc (by rw [hs5]; omega) _
     have HAS : Hid (Blk w5 ga 4 (boolsV (List.replicate nI false))) := by
      show Blk _ _ _ _
      rw [hw5]
      exact ((blk_false HU0.out).keep (Below.heap_alloc _ _ _ (by have := HZ4.out; omega))).keep (Below.heap_alloc _ _ _ (by have := HZ4.out; rw [hs5]; omega))
     have HBB : Hid (Row w5 gb 87 #[.slice (some ⟨ga, 0, none⟩) nI nI]) := by
      show Row _ _ _ _
      rw [hw5, hgb]
      have h := row_new w4 #[.slice (some ⟨ga, 0, none⟩) nI nI] 87
      exact h.keep (Below.heap_alloc _ _ _ h.lt)
     have HFF : Hid (Row w5 (gb + 1) 88 #[.func (.func 43) #[] #[.pointer (some ⟨gb, 0, none⟩)]]) := by
      show Row _ _ _ _
      rw [hw5, ← hs5]
      exact row_new _ _ _
     have HB25 : Hid (Below w2.heap.size w2 w5) := HBW.out.trans (HB5.out.mono (by rw [hga]; exact HBW.out.size))
     have HUW : Hid (Blk w5 gu 4 (boolsV (usedL t nE t.Ins.length))) := HUS.out.keep (HB5.out.block _ HGW.out.2)
     have t4 := (HRK.out w5 HB25.out).1.cell HI4.out
     have l4 := (HRK.out w5 HB25.out).1.lt
     have s4 := (HRK.out w5 HB25.out).1.blk.frozen 4
     have HCL : Hid (Calls Tryd.prog 44 #[.slice aE nE cE] w5 fun e w' => ∃ v, e = .returned v ∧ Go.Bk.Own S w' w5.heap.size 32 v t.Exits ∧ Below w5.heap.size w5 w') := cloneX_any (n := nE) HNE.out.symm (HAL.out w5 (HRK.out w5 HB25.out).2.2).exits HNX.out (fun b hb => Nat.lt_of_lt_of_le (HDOM.out b hb) (HRK.out w5 HB25.out).2.2.size) (by omega)
     clear HU0 HB4 HB4' HUS HBW
     have HGA := Lib.hid hga; have HGB := Lib.hid hgb
     clear hga hgb
     go_upto_region 13 with fail
     rw [← hw5]
     clear hw5 hs5
     go_upto_region 14 with (go_at_call 44; (with_reducible refine HCL.out.mono ?_); rintro e w6 ⟨vE, rfl, ho6, hb6⟩; obtain ⟨aC, cC, hvE, -, -, -⟩ := ho6.arr; rw [← HNE.out] at hvE; subst hvE; have HO6 := Lib.hid ho6; have HB6 := Lib.hid hb6; have t4 := (HRK.out w6 (HB25.out.trans (hb6.mono HB25.out.size))).1.cell HI4.out; have l4 := (HRK.out w6 (HB25.out.trans (hb6.mono HB25.out.size))).1.lt; have s4 := (HRK.out w6 (HB25.out.trans (hb6.mono HB25.out.size))).1.blk.frozen 4; clear ho6 hb6)
     clear t4 l4 s4 HCL
     obtain ⟨CL, hCL⟩ : ∃ CL, CL = (T.toList.set 4 (.slice aC nE cC)).toArray := ⟨_, rfl⟩
     obtain ⟨B, hB⟩ : ∃ B, B = w5.heap.size := ⟨_, rfl⟩
     have HBE := Lib.hid hB
     have hl4 : 4 < T.toList.length := by rw [show T.toList.length = T.size from rfl, hsT]; omega
     have HC4 : Hid (CL.toList[4]? = some (.slice aC nE cC)) := by show _ = _; rw [hCL]; show (T.toList.set 4 _)[4]? = _; rw [List.getElem?_set_self hl4]
     have HC3 : Hid (CL.toList[3]? = some (.slice aI nI cI)) := by show _ = _; rw [hCL]; show (T.toList.set 4 _)[3]? = _; rw [List.getElem?_set_ne (by omega)]; exact HI3.out
     have hsC : CL.size = 13 := by rw [hCL]; show (T.toList.set 4 _).length = 13; rw [List.length_set]; exact hsT
     have HCE := Lib.hid hCL
     have HDS : Hid (DS S w nI gu ga gb (gb + 1) B CL (.slice aC nE cC) (usedL t nE t.Ins.length) (askX tt nI 0) (exL t 0) (w6.setCell ⟨w.heap.size + 1, 4, none⟩ (.slice aC nE cC))) := by
      obtain ⟨f1, f2⟩ := HGW.out
      have f3 := HZ4.out
      have f5 := HZ5.out
      obtain ⟨r1, r2, r3⟩ := HRK.out w6 (HB25.out.trans (HB6.out.mono HB25.out.size))
      have k : ∀ b, b ≠ w.heap.size + 1 → (w6.setCell ⟨w.heap.size + 1, 4, none⟩ (.slice aC nE cC)).heap[b]? = w6.heap[b]? := fun b hb => Go.Bk.blk_setCell_other _ _ _ hb
      rw [hB]
      refine ⟨?_, r2.keep (k _ (by omega)), (HUW.out.keep (HB6.out.block _ HUW.out.lt)).keep (k _ (by omega)), ?_, (HBB.out.keep (HB6.out.block _ HBB.out.lt)).keep (k _ (by omega)), (HFF.out.keep (HB6.out.block _ HFF.out.lt)).keep (k _ (by omega)), ?_, below_set r3 (by omega), ⟨f1, f2, f3, by omega, by omega⟩, HDOM.out⟩
      · rw [hCL]
        exact r1.blk.set 4 (.slice aC nE cC)
      · rw [askX_zero]
        exact (HAS.out.keep (HB6.out.block _ HAS.out.lt)).keep (k _ (by omega))
      · rw [exL_zero]
        exact own_same' HO6.out (fun b hb => k b (by have := (HO6.out.lt b hb).1; have := HB25.out.size; have := HW2.out; omega)) (fun b hb => k b (by have := HDOM.out b hb; omega))
     obtain ⟨w7, hw7⟩ : ∃ w7, w7 = w6.setCell ⟨w.heap.size + 1, 4, none⟩ (.slice aC nE cC) := ⟨_, rfl⟩
     rw [← hw7] at HDS ⊢
     have t4 := HDS.out.tb.cell HC4.out
     have l4 := HDS.out.tb.lt
     clear hw7 hCL hB hl4 HO6 HB6 HGA HGB HB25 HUW HFF HBB HAS HB5 HZ5 HZ4 HGU HW2 HRK HGW
     go_wp2_with fail
     clear t4 l4
     go_loopw [55] (fun i W => ∃ k : Nat, k ≤ nE ∧ i = .int .i64 k ∧ DS S w nI gu ga gb (gb + 1) B CL (.slice aC nE cC) (usedL t nE t.Ins.length) (askX tt nI k) (exL t k) W) (fun i _ => nE - (intOf i).toNat)
     case atStart => exact ⟨0, Nat.zero_le _, rfl, HDS.out⟩
     case round =>
      clear HDS
      obtain ⟨k, hk, rfl, hds⟩ := hrel
      by_cases hlt : k < nE
      · as_aux_lemma =>
         obtain ⟨x, hx⟩ : ∃ x, t.Exits[k]? = some x := ⟨_, List.getElem?_eq_getElem (by rw [← HNE.out]; exact hlt)⟩
         have hlE : (exL t k).length = nE := by rw [exL_len, HNE.out]
         obtain ⟨g, cap, cs, h1, hBg, hgl, h4, h5, h6, h7, -⟩ := hds.ex.at (exL_at (k := k) hx)
         rw [hlE] at h1
         injection h1 with h1 e2 e3
         subst h1
         obtain ⟨a2, c2, a3, c3, rfl, -, -, -, -⟩ := api_TExit_cells_eq h5
         have d0 := h6 0 (by show 0 < 4; omega); have d1 := h6 1 (by show 1 < 4; omega); have d2 := h6 2 (by show 2 < 4; omega); have d3 := h6 3 (by show 3 < 4; omega)
         simp only [show Rep.sz Api.TExit = 4 from rfl, List.getElem?_cons_zero, List.getElem?_cons_succ, Nat.add_zero] at d0 d1 d2 d3
         have HYX : Hid (∀ W, Below w.heap.size w W → Rep.cells S W [.int .i64 x.At, .int .i64 x.Steps, .slice a2 x.Sets.length c2, .slice a3 x.Makes.length c3] x) := fun W hb => Rep.keep (fun b hb' => (hb.block b (HDOM.out b hb')).trans (hds.below.block b (HDOM.out b hb')).symm) h5
         have hki : (k : Int) < (nE : Int) := by omega
         have hg8 := hgl
         obtain ⟨us, hus⟩ : ∃ b, b = usedE t.Ins k := ⟨_, rfl⟩
         obtain ⟨gx, hgx⟩ : ∃ g, g = wr.heap.size := ⟨_, rfl⟩
         obtain ⟨w8, hw8⟩ : ∃ w8, w8 = wr.alloc (.cells #[.int .i64 x.At, .int .i64 x.Steps, .slice a2 x.Sets.length c2, .slice a3 x.Makes.length c3] 32) := ⟨_, rfl⟩
         have hb8 : Below wr.heap.size wr w8 := by rw [hw8]; exact cod.below_al2 _
         have hrow : Row w8 gx 32 #[.int .i64 x.At, .int .i64 x.Steps, .slice a2 x.Sets.length c2, .slice a3 x.Makes.length c3] := by rw [hw8, hgx]; exact row_new wr _ 32
         have HRX := Lib.hid hrow
         have HD8 := Lib.hid (hds.call hb8)
         have m0 := (hds.call hb8).used.cell (boolsV_get (usedL_all (t := t) hlt))
         rw [← hus] at m0
         have m2 := (hds.call hb8).used.lt
         have HX := Lib.hid hx
         have HGX : Hid (g < gx ∧ B ≤ g ∧ gx < w8.heap.size) := ⟨by rw [hgx]; exact hgl, hBg, hrow.lt⟩
         have HUS := Lib.hid hus
         have HSG : Hid (∀ b, S b → b ≠ g) := fun b hb => by have := HDOM.out b hb; have := hds.far; omega
         have HGP := Lib.hid hgx
         have HDW := Lib.hid hds; have HB8 := Lib.hid hb8
         have HTK := Lib.hid (HTX.out k x hx)
         clear hds hx h4 h5 h6 h7 hrow hb8 hBg hus e2 e3 hgx
         go_upto_region 17 with fail
         rw [← hw8, ← HGP.out]
         clear hw8 d0 d1 d2 d3 hg8 hgl
         cases us with
         | true =>
           have HEX : Hid (exL t (k + 1) = exL t k) := exL_yes HUS.out.symm
           have HYT : Hid (tt.Exits[k]? = some x) := by show _ = _; rw [HTK.out]; unfold bareAt; rw [HUS.out.symm, if_pos rfl]
           go_upto_region 20 with fail
           clear m0 m2
           have HD9 := Lib.hid (HEX.out.symm ▸ HD8.out)
           clear HD8 HEX
           have HER := Lib.hid (HRB.out.exits _ (List.mem_of_getElem? HYT.out))
           have HVL : Hid (∀ W, Below w8.heap.size w8 W → Calls Tryd.prog 45 #[.agg #[.int .i64 x.At, .int .i64 x.Steps, .slice a2 x.Sets.length c2, .slice a3 x.Makes.length c3]] W (RetL W (exVals x))) := fun W hb => by
            have hb' := HD9.out.below.trans (hb.mono HD9.out.below.size)
            exact dvalues_any (S := S) (X := #[.int .i64 x.At, .int .i64 x.Steps, .slice a2 x.Sets.length c2, .slice a3 x.Makes.length c3]) (HYX.out W hb') (fun b hb2 => Nat.lt_of_lt_of_le (HDOM.out b hb2) hb'.size) HER.out.fewS HER.out.fewM (fun m hm => (HER.out.makes m hm).2.1)
           obtain ⟨C0, HCC⟩ : ∃ C0 : World → Prop, Hid (∀ W, C0 W ↔ Below w8.heap.size w8 W) := ⟨_, fun _ => Iff.rfl⟩
           have HC0 : Hid (C0 w8.drew) := (HCC.out _).2 (Below.refl _ _).drew
           have HNEC : Nonempty (HeldW C0) := ⟨⟨_, HC0.out⟩⟩
           refine wp_region_plan C0 [(true, 0), (true, 1), (false, 2)] 3 20 (by kernel_rfl) (by kernel_rfl) (by kernel_rfl) (by kernel_rfl) HC0.out ?_
           simp only [List.drop_succ_cons, List.drop_zero]
           have hx0 : ∀ d : HeldW C0, d.val.cell? ⟨gx, 0, none⟩ = some (.int .i64 x.At) := fun d => (HRX.out.keep (((HCC.out _).1 d.ok).block _ HRX.out.lt)).cell (j := 0) rfl
           have hx1 : ∀ d : HeldW C0, d.val.cell? ⟨gx, 1, none⟩ = some (.int .i64 x.Steps) := fun d => (HRX.out.keep (((HCC.out _).1 d.ok).block _ HRX.out.lt)).cell (j := 1) rfl
           have hx2 : ∀ d : HeldW C0, d.val.cell? ⟨gx, 2, none⟩ = some (.slice a2 x.Sets.length c2) := fun d => (HRX.out.keep (((HCC.out _).1 d.ok).block _ HRX.out.lt)).cell (j := 2) rfl
           have hx3 : ∀ d : HeldW C0, d.val.cell? ⟨gx, 3, none⟩ = some (.slice a3 x.Makes.length c3) := fun d => (HRX.out.keep (((HCC.out _).1 d.ok).block _ HRX.out.lt)).cell (j := 3) rfl
           have hxl : ∀ d : HeldW C0, gx < d.val.heap.size := fun d => Nat.lt_of_lt_of_le HRX.out.lt ((HCC.out _).1 d.ok).size
           have hf0 : ∀ d : HeldW C0, d.val.cell? ⟨gb + 1, 0, none⟩ = some (.func (.func 43) #[] #[.pointer (some ⟨gb, 0, none⟩)]) := fun d => (HD9.out.call ((HCC.out _).1 d.ok)).clo.cell (j := 0) rfl
           have hfl : ∀ d : HeldW C0, gb + 1 < d.val.heap.size := fun d => (HD9.out.call ((HCC.out _).1 d.ok)).clo.lt
           refine plan_quiet (by repeat (first | with_reducible exact nth_zero | with_reducible apply nth_succ)) ?_
           go_big_quiet_step (fail)
           refine wpQuiet_nil ?_
           refine plan_quiet (by repeat (first | with_reducible exact nth_zero | with_reducible apply nth_succ)) ?_
           go_big_quiet_step (fail)
           refine wpQuiet_nil ?_
           refine plan_op (by repeat (first | with_reducible exact nth_zero | with_reducible apply nth_succ)) (by rfl) fun RR HRR => ?_
           go_wp2_with (go_at_call 45; refine (HVL.out _ ((HCC.out _).1 HC0.out)).mono ?_; rintro e w10 ⟨⟨a10, c10, rfl, har, -, -⟩, hb10⟩; have HAR := Lib.hid har; have HB10 : Hid (Below w8.heap.size w8 w10) := (Below.refl _ _).drew.trans hb10; clear har hb10)
           refine AfterT.normal (HRR _ _ (isC ((HCC.out _).2 HB10.out)) ?_)
           clear HRR RR
           refine plan_done ?_
           clear hx0 hx1 hx2 hx3 hxl hf0 hfl
           have HDA := Lib.hid (HD9.out.call HB10.out)
           have HMK : Hid (Calls Tryd.prog 43 #[.slice a10 (exVals x).length c10, .pointer (some ⟨gb, 0, none⟩)] w10 (MarkPost w10 ga (markL (askX tt nI k) (exVals x)))) := by
            obtain ⟨f1, f2, f3, f4, f5⟩ := HD9.out.far
            have hl9 : ga < w8.heap.size := HD9.out.ask.lt
            refine mark_any HAR.out (fun b hb => ⟨hb.2, fun e => ?_⟩) rfl (rl_len _ _) (by omega) (fun v hv => ?_) HDA.out.bx HDA.out.ask (by omega)
            · have h9 : w8.drew.heap.size ≤ b := hb.1
              have h8 : w8.drew.heap.size = w8.heap.size := rfl
              omega
            · obtain ⟨h1, h2⟩ := vals_nonneg HER.out v hv
              exact ⟨h1, by rw [HTI.out, ← HNI.out] at h2; exact h2⟩
           go_wp2_with (go_at_call 43; refine HMK.out.mono ?_; rintro e w11 ⟨rfl, hbk, hwr⟩; have HBK := Lib.hid hbk; have HWR := Lib.hid hwr; clear hbk hwr)
           all_goals refine NoPanic.normal ?_
           have HDN : Hid (DS S w nI gu ga gb (gb + 1) B CL (.slice (some ⟨g, 0, none⟩) nE cC) (usedL t nE t.Ins.length) (askX tt nI (k + 1)) (exL t (k + 1)) w11) := by
            have h := HDA.out.mark HWR.out HBK.out
            rw [askX_succ HYT.out (fun v hv => (vals_nonneg HER.out v hv).1)] at h
            exact h
           go_wp2_with fail
           go_roundw
           case rel => exact ⟨k + 1, by omega, by go_num, HDN.out⟩
           case measure => simp [intOf]; omega
         | false =>
           have HEX : Hid (exL t (k + 1) = (exL t k).set k ⟨x.At, x.Steps, [], []⟩) := exL_no HX.out HUS.out.symm
           obtain ⟨y, hy⟩ : ∃ y : Api.TExit, y = ⟨x.At, x.Steps, [], []⟩ := ⟨_, rfl⟩
           have HYT : Hid (tt.Exits[k]? = some y) := by show _ = _; rw [HTK.out, hy]; unfold bareAt; rw [HUS.out.symm]; rfl
           have HYB : Hid (∀ W, Below w.heap.size w W → Rep.cells S W [.int .i64 x.At, .int .i64 x.Steps, .slice none 0 0, .slice none 0 0] y) := fun W hb => by
            obtain ⟨_, _, ⟨rfl, i0⟩, ⟨_, _, ⟨rfl, i1⟩, -⟩, -⟩ := HYX.out W hb
            rw [hy]
            exact ⟨_, _, ⟨rfl, i0⟩, ⟨_, _, ⟨rfl, i1⟩, ⟨_, _, ⟨none, 0, rfl, Nat.le_refl _, fun _ => rfl, Arr.nil _ _ _⟩, ⟨none, 0, rfl, Nat.le_refl _, fun _ => rfl, Arr.nil _ _ _⟩, rfl⟩, rfl⟩, rfl⟩
           have x2 := HRX.out.cell (j := 2) rfl
           have x3 := HRX.out.cell (j := 3) rfl
           have f2 := HRX.out.blk.frozen 2
           have f3 := HRX.out.blk.frozen 3
           have lx := HRX.out.lt
           have x3' : (w8.setCell ⟨gx, 2, none⟩ (.slice none 0 0)).cell? ⟨gx, 3, none⟩ = some (.slice a3 x.Makes.length c3) := by
            have h : Row (w8.setCell ⟨gx, 2, none⟩ (.slice none 0 0)) gx 32 #[.int .i64 x.At, .int .i64 x.Steps, .slice none 0 0, .slice a3 x.Makes.length c3] := HRX.out.blk.set 2 (.slice none 0 0)
            exact h.cell (j := 3) rfl
           go_upto_region 19 with fail
           clear x2 x3 f2 f3 lx x3' m0 m2
           obtain ⟨w9, hw9⟩ : ∃ w9, w9 = (w8.setCell ⟨gx, 2, none⟩ (.slice none 0 0)).setCell ⟨gx, 3, none⟩ (.slice none 0 0) := ⟨_, rfl⟩
           have HR9 : Hid (Row w9 gx 32 #[.int .i64 x.At, .int .i64 x.Steps, .slice none 0 0, .slice none 0 0]) := by
            have h : Row (w8.setCell ⟨gx, 2, none⟩ (.slice none 0 0)) gx 32 #[.int .i64 x.At, .int .i64 x.Steps, .slice none 0 0, .slice a3 x.Makes.length c3] := HRX.out.blk.set 2 (.slice none 0 0)
            show Row _ _ _ _
            rw [hw9]
            exact h.blk.set 3 (.slice none 0 0)
           have HDX := Lib.hid (HDW.out.call (W' := w9) (by rw [hw9]; exact below_set (below_set HB8.out (by rw [HGP.out]; exact Nat.le_refl _)) (by rw [HGP.out]; exact Nat.le_refl _)))
           rw [← hw9]
           obtain ⟨g', cap', hv9, -, -, hput⟩ := own_put4 HDX.out.ex (exL_at (k := k) HX.out)
           injection hv9 with e1 e2 e3
           injection e1 with e1
           injection e1 with e1
           subst e1
           obtain ⟨wz, hrun, hoz, hkz, hsz, z1, z2, z3⟩ := hput HSG.out
           have HRUN := Lib.hid hrun
           have hoz' := HEX.out.symm ▸ hoz
           have HDZ : Hid (DS S w nI gu ga gb (gb + 1) B CL (.slice (some ⟨g, 0, none⟩) nE cC) (usedL t nE t.Ins.length) (askX tt nI k) (exL t (k + 1)) wz) := HDX.out.exit HGX.out.2.1 hkz hsz z1 z2 z3 hoz'
           have HRZ : Hid (Row wz gx 32 #[.int .i64 x.At, .int .i64 x.Steps, .slice none 0 0, .slice none 0 0]) := HR9.out.keep (hkz gx (by have := HGX.out.1; omega))
           have t4 := HDX.out.tb.cell HC4.out
           have l4 := HDX.out.tb.lt
           have x0 := HR9.out.cell (j := 0) rfl
           have x1 := HR9.out.cell (j := 1) rfl
           have x2 := HR9.out.cell (j := 2) rfl
           have x3 := HR9.out.cell (j := 3) rfl
           have lx := HR9.out.lt
           clear hw9 e2 e3 hput hrun hoz hkz hsz z1 z2 z3 hoz' HRX HD8 HR9 HDX HDW HB8 hy
           go_upto_region 20 with (with_reducible refine list_store rfl rfl ?hx ?hy HRUN.out ?hn; (case hx => simp [Act.eval]); (case hy => simp [Act.eval]); simp only [Act.put])
           clear t4 l4 x0 x1 x2 x3 lx HRUN HYX
           have HRX := HRZ; have HD9 := HDZ; have HYX := HYB
           clear HRZ HDZ HYB
           have HER := Lib.hid (HRB.out.exits _ (List.mem_of_getElem? HYT.out))
           have HVL : Hid (∀ W, Below wz.heap.size wz W → Calls Tryd.prog 45 #[.agg #[.int .i64 x.At, .int .i64 x.Steps, .slice none 0 0, .slice none 0 0]] W (RetL W (exVals y))) := fun W hb => by
            have hb' := HD9.out.below.trans (hb.mono HD9.out.below.size)
            exact dvalues_any (S := S) (X := #[.int .i64 x.At, .int .i64 x.Steps, .slice none 0 0, .slice none 0 0]) (HYX.out W hb') (fun b hb2 => Nat.lt_of_lt_of_le (HDOM.out b hb2) hb'.size) HER.out.fewS HER.out.fewM (fun m hm => (HER.out.makes m hm).2.1)
           obtain ⟨C0, HCC⟩ : ∃ C0 : World → Prop, Hid (∀ W, C0 W ↔ Below wz.heap.size wz W) := ⟨_, fun _ => Iff.rfl⟩
           have HC0 : Hid (C0 wz.drew) := (HCC.out _).2 (Below.refl _ _).drew
           have HNEC : Nonempty (HeldW C0) := ⟨⟨_, HC0.out⟩⟩
           refine wp_region_plan C0 [(true, 0), (true, 1), (false, 2)] 3 20 (by kernel_rfl) (by kernel_rfl) (by kernel_rfl) (by kernel_rfl) HC0.out ?_
           simp only [List.drop_succ_cons, List.drop_zero]
           have hx0 : ∀ d : HeldW C0, d.val.cell? ⟨gx, 0, none⟩ = some (.int .i64 x.At) := fun d => (HRX.out.keep (((HCC.out _).1 d.ok).block _ HRX.out.lt)).cell (j := 0) rfl
           have hx1 : ∀ d : HeldW C0, d.val.cell? ⟨gx, 1, none⟩ = some (.int .i64 x.Steps) := fun d => (HRX.out.keep (((HCC.out _).1 d.ok).block _ HRX.out.lt)).cell (j := 1) rfl
           have hx2 : ∀ d : HeldW C0, d.val.cell? ⟨gx, 2, none⟩ = some (.slice none 0 0) := fun d => (HRX.out.keep (((HCC.out _).1 d.ok).block _ HRX.out.lt)).cell (j := 2) rfl
           have hx3 : ∀ d : HeldW C0, d.val.cell? ⟨gx, 3, none⟩ = some (.slice none 0 0) := fun d => (HRX.out.keep (((HCC.out _).1 d.ok).block _ HRX.out.lt)).cell (j := 3) rfl
           have hxl : ∀ d : HeldW C0, gx < d.val.heap.size := fun d => Nat.lt_of_lt_of_le HRX.out.lt ((HCC.out _).1 d.ok).size
           have hf0 : ∀ d : HeldW C0, d.val.cell? ⟨gb + 1, 0, none⟩ = some (.func (.func 43) #[] #[.pointer (some ⟨gb, 0, none⟩)]) := fun d => (HD9.out.call ((HCC.out _).1 d.ok)).clo.cell (j := 0) rfl
           have hfl : ∀ d : HeldW C0, gb + 1 < d.val.heap.size := fun d => (HD9.out.call ((HCC.out _).1 d.ok)).clo.lt
           refine plan_quiet (by repeat (first | with_reducible exact nth_zero | with_reducible apply nth_succ)) ?_
           go_big_quiet_step (fail)
           refine wpQuiet_nil ?_
           refine plan_quiet (by repeat (first | with_reducible exact nth_zero | with_reducible apply nth_succ)) ?_
           go_big_quiet_step (fail)
           refine wpQuiet_nil ?_
           refine plan_op (by repeat (first | with_reducible exact nth_zero | with_reducible apply nth_succ)) (by rfl) fun RR HRR => ?_
           go_wp2_with (go_at_call 45; refine (HVL.out _ ((HCC.out _).1 HC0.out)).mono ?_; rintro e w10 ⟨⟨a10, c10, rfl, har, -, -⟩, hb10⟩; have HAR := Lib.hid har; have HB10 : Hid (Below wz.heap.size wz w10) := (Below.refl _ _).drew.trans hb10; clear har hb10)
           refine AfterT.normal (HRR _ _ (isC ((HCC.out _).2 HB10.out)) ?_)
           clear HRR RR
           refine plan_done ?_
           clear hx0 hx1 hx2 hx3 hxl hf0 hfl
           have HDA := Lib.hid (HD9.out.call HB10.out)
           have HMK : Hid (Calls Tryd.prog 43 #[.slice a10 (exVals y).length c10, .pointer (some ⟨gb, 0, none⟩)] w10 (MarkPost w10 ga (markL (askX tt nI k) (exVals y)))) := by
            obtain ⟨f1, f2, f3, f4, f5⟩ := HD9.out.far
            have hl9 : ga < wz.heap.size := HD9.out.ask.lt
            refine mark_any HAR.out (fun b hb => ⟨hb.2, fun e => ?_⟩) rfl (rl_len _ _) (by omega) (fun v hv => ?_) HDA.out.bx HDA.out.ask (by omega)
            · have h9 : wz.drew.heap.size ≤ b := hb.1
              have h8 : wz.drew.heap.size = wz.heap.size := rfl
              omega
            · obtain ⟨h1, h2⟩ := vals_nonneg HER.out v hv
              exact ⟨h1, by rw [HTI.out, ← HNI.out] at h2; exact h2⟩
           go_wp2_with (go_at_call 43; refine HMK.out.mono ?_; rintro e w11 ⟨rfl, hbk, hwr⟩; have HBK := Lib.hid hbk; have HWR := Lib.hid hwr; clear hbk hwr)
           all_goals refine NoPanic.normal ?_
           have HDN : Hid (DS S w nI gu ga gb (gb + 1) B CL (.slice (some ⟨g, 0, none⟩) nE cC) (usedL t nE t.Ins.length) (askX tt nI (k + 1)) (exL t (k + 1)) w11) := by
            have h := HDA.out.mark HWR.out HBK.out
            rw [askX_succ HYT.out (fun v hv => (vals_nonneg HER.out v hv).1)] at h
            exact h
           go_wp2_with fail
           go_roundw
           case rel => exact ⟨k + 1, by omega, by go_num, HDN.out⟩
           case measure => simp [intOf]; omega
      · as_aux_lemma =>
         obtain rfl : nE = k := by omega
         have HDS := Lib.hid hds
         clear hds hk hlt
         have HCQ : Hid (CL.toList = [.int .i64 t.Fn, .int .i64 t.At, .int .i64 t.Loop, .slice aI nI cI, .slice aC nE cC, .int .i64 t.Turn.At, .int .i64 t.Turn.Steps, .slice a7 n7 c7, .slice a8 n8 c8, .int .i64 t.Back.At, .int .i64 t.Back.Steps, .slice b7 m7 d7, .slice b8 m8 d8]) := by
          show _ = _
          rw [HCE.out]
          show T.toList.set 4 _ = _
          rw [HTQ.out]
          rfl
         obtain ⟨A0, hA0⟩ : ∃ A, A = askX tt nI nE := ⟨_, rfl⟩
         have HLA : Hid (A0.length = nI) := by show _ = _; rw [hA0]; exact rl_len _ _
         rw [← hA0] at HDS
         have HA0 := Lib.hid hA0
         obtain ⟨w8, hw8⟩ : ∃ w8 : World, w8 = wr := ⟨_, rfl⟩
         rw [← hw8] at HDS ⊢
         clear hA0 hw8
         have HVL : Hid (∀ W, Below w8.heap.size w8 W → Calls Tryd.prog 45 #[.agg #[.int .i64 t.Turn.At, .int .i64 t.Turn.Steps, .slice a7 n7 c7, .slice a8 n8 c8]] W (RetL W (exVals t.Turn))) := fun W hb => by
          have hb' := HDS.out.below.trans (hb.mono HDS.out.below.size)
          have hr := HR.out.turn
          exact dvalues_any (S := S) (X := #[.int .i64 t.Turn.At, .int .i64 t.Turn.Steps, .slice a7 n7 c7, .slice a8 n8 c8]) (HAL.out W hb').turn (fun b hb2 => Nat.lt_of_lt_of_le (HDOM.out b hb2) hb'.size) hr.fewS hr.fewM (fun m hm => (hr.makes m hm).2.1)
         obtain ⟨C0, HCC⟩ : ∃ C0 : World → Prop, Hid (∀ W, C0 W ↔ Below w8.heap.size w8 W) := ⟨_, fun _ => Iff.rfl⟩
         have HC0 : Hid (C0 w8.drew) := (HCC.out _).2 (Below.refl _ _).drew
         have HNEC : Nonempty (HeldW C0) := ⟨⟨_, HC0.out⟩⟩
         go_upto_region 22 with fail
         refine wp_region_plan C0 [(true, 0), (true, 1), (true, 2), (false, 3)] 4 20 (by kernel_rfl) (by kernel_rfl) (by kernel_rfl) (by kernel_rfl) HC0.out ?_
         simp only [List.drop_succ_cons, List.drop_zero]
         have hx0 : ∀ d : HeldW C0, d.val.cell? ⟨w.heap.size + 1, 5, none⟩ = some (.int .i64 t.Turn.At) := fun d => (HDS.out.call ((HCC.out _).1 d.ok)).tb.cell (j := 5) (by rw [HCQ.out]; rfl)
         have hx1 : ∀ d : HeldW C0, d.val.cell? ⟨w.heap.size + 1, 6, none⟩ = some (.int .i64 t.Turn.Steps) := fun d => (HDS.out.call ((HCC.out _).1 d.ok)).tb.cell (j := 6) (by rw [HCQ.out]; rfl)
         have hx2 : ∀ d : HeldW C0, d.val.cell? ⟨w.heap.size + 1, 7, none⟩ = some (.slice a7 n7 c7) := fun d => (HDS.out.call ((HCC.out _).1 d.ok)).tb.cell (j := 7) (by rw [HCQ.out]; rfl)
         have hx3 : ∀ d : HeldW C0, d.val.cell? ⟨w.heap.size + 1, 8, none⟩ = some (.slice a8 n8 c8) := fun d => (HDS.out.call ((HCC.out _).1 d.ok)).tb.cell (j := 8) (by rw [HCQ.out]; rfl)
         have hxl : ∀ d : HeldW C0, w.heap.size + 1 < d.val.heap.size := fun d => (HDS.out.call ((HCC.out _).1 d.ok)).tb.lt
         have hf0 : ∀ d : HeldW C0, d.val.cell? ⟨gb + 1, 0, none⟩ = some (.func (.func 43) #[] #[.pointer (some ⟨gb, 0, none⟩)]) := fun d => (HDS.out.call ((HCC.out _).1 d.ok)).clo.cell (j := 0) rfl
         have hfl : ∀ d : HeldW C0, gb + 1 < d.val.heap.size := fun d => (HDS.out.call ((HCC.out _).1 d.ok)).clo.lt
         refine plan_quiet (by repeat (first | with_reducible exact nth_zero | with_reducible apply nth_succ)) ?_
         go_big_quiet_step (fail)
         refine wpQuiet_nil ?_
         refine plan_quiet (by repeat (first | with_reducible exact nth_zero | with_reducible apply nth_succ)) ?_
         go_big_quiet_step (fail)
         refine wpQuiet_nil ?_
         refine plan_quiet (by repeat (first | with_reducible exact nth_zero | with_reducible apply nth_succ)) ?_
         go_big_quiet_step (fail)
         refine wpQuiet_nil ?_
         refine plan_op (by repeat (first | with_reducible exact nth_zero | with_reducible apply nth_succ)) (by rfl) fun RR HRR => ?_
         go_wp2_with (go_at_call 45; refine (HVL.out _ ((HCC.out _).1 HC0.out)).mono ?_; rintro e w10 ⟨⟨a9t, c9t, rfl, har, -, -⟩, hb10⟩; have HAR := Lib.hid har; have HB10 : Hid (Below w8.heap.size w8 w10) := (Below.refl _ _).drew.trans hb10; clear har hb10)
         refine AfterT.normal (HRR _ _ (isC ((HCC.out _).2 HB10.out)) ?_)
         clear HRR RR
         refine plan_done ?_
         clear hx0 hx1 hx2 hx3 hxl hf0 hfl
         have HDA := Lib.hid (HDS.out.call HB10.out)
         have HMK : Hid (Calls Tryd.prog 43 #[.slice a9t (exVals t.Turn).length c9t, .pointer (some ⟨gb, 0, none⟩)] w10 (MarkPost w10 ga (markL A0 (exVals t.Turn)))) := by
          obtain ⟨f1, f2, f3, f4, f5⟩ := HDS.out.far
          have hl9 : ga < w8.heap.size := HDS.out.ask.lt
          refine mark_any HAR.out (fun b hb => ⟨hb.2, fun e => ?_⟩) rfl HLA.out (by omega) (fun v hv => ?_) HDA.out.bx HDA.out.ask (by omega)
          · have h9 : w8.drew.heap.size ≤ b := hb.1
            have h8 : w8.drew.heap.size = w8.heap.size := rfl
            omega
          · obtain ⟨h1, h2⟩ := vals_nonneg HR.out.turn v hv
            exact ⟨h1, by rw [← HNI.out] at h2; exact h2⟩
         go_wp2_with (go_at_call 43; refine HMK.out.mono ?_; rintro e w11 ⟨rfl, hbk, hwr⟩; have HBK := Lib.hid hbk; have HWR := Lib.hid hwr; clear hbk hwr)
         all_goals refine NoPanic.normal ?_
         have HDN := Lib.hid (HDA.out.mark HWR.out HBK.out)
         clear HVL HCC HC0 HNEC HAR HB10 HDA HMK HBK HWR C0
         obtain ⟨A1, hA1⟩ : ∃ A, A = markL A0 (exVals t.Turn) := ⟨_, rfl⟩
         have HLB : Hid (A1.length = nI) := by show _ = _; rw [hA1, markL_len]; exact HLA.out
         rw [← hA1] at HDN
         have HA1 := Lib.hid hA1
         clear hA1 HDS
         have HDS := HDN
         clear HDN
         have HVL : Hid (∀ W, Below w11.heap.size w11 W → Calls Tryd.prog 45 #[.agg #[.int .i64 t.Back.At, .int .i64 t.Back.Steps, .slice b7 m7 d7, .slice b8 m8 d8]] W (RetL W (exVals t.Back))) := fun W hb => by
          have hb' := HDS.out.below.trans (hb.mono HDS.out.below.size)
          have hr := HR.out.back
          exact dvalues_any (S := S) (X := #[.int .i64 t.Back.At, .int .i64 t.Back.Steps, .slice b7 m7 d7, .slice b8 m8 d8]) (HAL.out W hb').back (fun b hb2 => Nat.lt_of_lt_of_le (HDOM.out b hb2) hb'.size) hr.fewS hr.fewM (fun m hm => (hr.makes m hm).2.1)
         obtain ⟨C0, HCC⟩ : ∃ C0 : World → Prop, Hid (∀ W, C0 W ↔ Below w11.heap.size w11 W) := ⟨_, fun _ => Iff.rfl⟩
         have HC0 : Hid (C0 w11.drew) := (HCC.out _).2 (Below.refl _ _).drew
         have HNEC : Nonempty (HeldW C0) := ⟨⟨_, HC0.out⟩⟩
         go_upto_region 23 with fail
         refine wp_region_plan C0 [(true, 0), (true, 1), (true, 2), (false, 3)] 4 20 (by kernel_rfl) (by kernel_rfl) (by kernel_rfl) (by kernel_rfl) HC0.out ?_
         simp only [List.drop_succ_cons, List.drop_zero]
         have hx0 : ∀ d : HeldW C0, d.val.cell? ⟨w.heap.size + 1, 9, none⟩ = some (.int .i64 t.Back.At) := fun d => (HDS.out.call ((HCC.out _).1 d.ok)).tb.cell (j := 9) (by rw [HCQ.out]; rfl)
         have hx1 : ∀ d : HeldW C0, d.val.cell? ⟨w.heap.size + 1, 10, none⟩ = some (.int .i64 t.Back.Steps) := fun d => (HDS.out.call ((HCC.out _).1 d.ok)).tb.cell (j := 10) (by rw [HCQ.out]; rfl)
         have hx2 : ∀ d : HeldW C0, d.val.cell? ⟨w.heap.size + 1, 11, none⟩ = some (.slice b7 m7 d7) := fun d => (HDS.out.call ((HCC.out _).1 d.ok)).tb.cell (j := 11) (by rw [HCQ.out]; rfl)
         have hx3 : ∀ d : HeldW C0, d.val.cell? ⟨w.heap.size + 1, 12, none⟩ = some (.slice b8 m8 d8) := fun d => (HDS.out.call ((HCC.out _).1 d.ok)).tb.cell (j := 12) (by rw [HCQ.out]; rfl)
         have hxl : ∀ d : HeldW C0, w.heap.size + 1 < d.val.heap.size := fun d => (HDS.out.call ((HCC.out _).1 d.ok)).tb.lt
         have hf0 : ∀ d : HeldW C0, d.val.cell? ⟨gb + 1, 0, none⟩ = some (.func (.func 43) #[] #[.pointer (some ⟨gb, 0, none⟩)]) := fun d => (HDS.out.call ((HCC.out _).1 d.ok)).clo.cell (j := 0) rfl
         have hfl : ∀ d : HeldW C0, gb + 1 < d.val.heap.size := fun d => (HDS.out.call ((HCC.out _).1 d.ok)).clo.lt
         refine plan_quiet (by repeat (first | with_reducible exact nth_zero | with_reducible apply nth_succ)) ?_
         go_big_quiet_step (fail)
         refine wpQuiet_nil ?_
         refine plan_quiet (by repeat (first | with_reducible exact nth_zero | with_reducible apply nth_succ)) ?_
         go_big_quiet_step (fail)
         refine wpQuiet_nil ?_
         refine plan_quiet (by repeat (first | with_reducible exact nth_zero | with_reducible apply nth_succ)) ?_
         go_big_quiet_step (fail)
         refine wpQuiet_nil ?_
         refine plan_op (by repeat (first | with_reducible exact nth_zero | with_reducible apply nth_succ)) (by rfl) fun RR HRR => ?_
         go_wp2_with (go_at_call 45; refine (HVL.out _ ((HCC.out _).1 HC0.out)).mono ?_; rintro e w10 ⟨⟨a10, c10, rfl, har, -, -⟩, hb10⟩; have HAR := Lib.hid har; have HB10 : Hid (Below w11.heap.size w11 w10) := (Below.refl _ _).drew.trans hb10; clear har hb10)
         refine AfterT.normal (HRR _ _ (isC ((HCC.out _).2 HB10.out)) ?_)
         clear HRR RR
         refine plan_done ?_
         clear hx0 hx1 hx2 hx3 hxl hf0 hfl
         have HDA := Lib.hid (HDS.out.call HB10.out)
         have HMK : Hid (Calls Tryd.prog 43 #[.slice a10 (exVals t.Back).length c10, .pointer (some ⟨gb, 0, none⟩)] w10 (MarkPost w10 ga (markL A1 (exVals t.Back)))) := by
          obtain ⟨f1, f2, f3, f4, f5⟩ := HDS.out.far
          have hl9 : ga < w11.heap.size := HDS.out.ask.lt
          refine mark_any HAR.out (fun b hb => ⟨hb.2, fun e => ?_⟩) rfl HLB.out (by omega) (fun v hv => ?_) HDA.out.bx HDA.out.ask (by omega)
          · have h9 : w11.drew.heap.size ≤ b := hb.1
            have h8 : w11.drew.heap.size = w11.heap.size := rfl
            omega
          · obtain ⟨h1, h2⟩ := vals_nonneg HR.out.back v hv
            exact ⟨h1, by rw [← HNI.out] at h2; exact h2⟩
         go_wp2_with (go_at_call 43; refine HMK.out.mono ?_; rintro e w14 ⟨rfl, hbk, hwr⟩; have HBK := Lib.hid hbk; have HWR := Lib.hid hwr; clear hbk hwr)
         all_goals refine NoPanic.normal ?_
         have HDN := Lib.hid (HDA.out.mark HWR.out HBK.out)
         clear HVL HCC HC0 HNEC HAR HB10 HDA HMK HBK HWR C0
         have HDK : Hid (DS S w nI gu ga gb (gb + 1) B CL (.slice aC nE cC) (usedL t nE t.Ins.length) (askK tt nI 0) (exL t nE) w14) := by
          have h := HDN.out
          obtain ⟨q1, q2, q3, q4⟩ := HTE9.out
          have e := askE_eq (t := tt) (n := nI) (fun v hv => (vals_nonneg HRB.out.turn v hv).1) (fun v hv => (vals_nonneg HRB.out.back v hv).1)
          rw [q1, q2, q4, ← HNE.out] at e
          rw [HA1.out, HA0.out, e, askK_zero] at h
          exact h
         clear HDN HDS HLA HLB HA0 HA1
         have t3 := HDK.out.tb.cell HC3.out
         have l3 := HDK.out.tb.lt
         go_upto_region 25 with (with_reducible refine wp_make (n := nI) rfl rfl Tryd.underlying58 Tryd.info3 rfl rfl rfl (by omega) (by unfold maxLen; omega) fun w15 hblk hbel hsz => ?_; have HU0 := Lib.hid hblk; have HB15 := Lib.hid hbel; have HZ15 := Lib.hid hsz; clear hblk hbel hsz)
         obtain ⟨gt, hgt⟩ : ∃ g, g = w14.heap.size := ⟨_, rfl⟩
         obtain ⟨gq, hgq⟩ : ∃ g, g = w15.heap.size := ⟨_, rfl⟩
         rw [← hgt] at HU0 HZ15 ⊢
         rw [← hgq] at HZ15 ⊢
         obtain ⟨w16, hw16⟩ : ∃ w16, w16 = w15.alloc (.cells #[.slice (some ⟨gt, 0, none⟩) nI nI] 58) := ⟨_, rfl⟩
         obtain ⟨w17, hw17⟩ : ∃ w17, w17 = w16.alloc (.cells #[.slice aI nI cI] 27) := ⟨_, rfl⟩
         have hz16 : w16.heap.size = gq + 1 := by rw [hw16, hgq]; simp
         have hz17 : w17.heap.size = gq + 2 := by rw [hw17]; simp; omega
         have HD16 : Hid (DS S w nI gu ga gb (gb + 1) B CL (.slice aC nE cC) (usedL t nE t.Ins.length) (askK tt nI 0) (exL t nE) w16) := by
          have h := HDK.out.call HB15.out
          rw [hw16]
          exact h.call ((Below.refl _ _).alloc (Nat.le_refl _) _)
         have HDR : Hid (DR S w nI gu ga gb (gb + 1) B CL (.slice aC nE cC) (usedL t nE t.Ins.length) (exL t nE) gt gq (gq + 2) (stD tt nI (valsI ([] : List (AtI t.Ins)))) w17) := by
          have hb16 : Below w15.heap.size w15 w16 := by rw [hw16]; exact (Below.refl _ _).alloc (Nat.le_refl _) _
          have hb17 : Below w16.heap.size w16 w17 := by rw [hw17]; exact (Below.refl _ _).alloc (Nat.le_refl _) _
          have h15 : gt < w15.heap.size := by have := HZ15.out; omega
          have h16 : gt < w16.heap.size := Nat.lt_of_lt_of_le h15 hb16.size
          refine ⟨HD16.out.call hb17, ?_, ?_, fun b hb => ?_, ⟨?_, HZ15.out, by omega⟩, by omega⟩
          · show Blk _ _ _ ((toK tt nI 0).map _)
            rw [toK_zero, List.map_replicate]
            exact (HU0.out.keep (hb16.block _ h15)).keep (hb17.block _ h16)
          · have h : Row w16 gq 58 #[.slice (some ⟨gt, 0, none⟩) nI nI] := by rw [hw16, hgq]; exact row_new w15 _ _
            exact h.keep (hb17.block _ h.lt)
          · rw [hgt]; exact (HDK.out.ex.lt b hb).2
          · rw [hgt]; exact HDK.out.clo.lt
         have HBS : Hid (Row w17 (gq + 1) 27 #[.slice aI nI cI]) := by
          show Row _ _ _ _
          rw [hw17, ← hz16]
          exact row_new w16 _ _
         have HZ17 := Lib.hid hz17; have HGT := Lib.hid hgt; have HGQ := Lib.hid hgq
         have HW17 : Hid (Below w.heap.size w w17) := HDR.out.ds.below
         have t3 := HD16.out.tb.cell HC3.out
         have l3 := HD16.out.tb.lt
         clear hz17 hgt hgq HD16 HU0 HB15 HZ15 HDK
         go_upto_region 25 with fail
         rw [← hw16]
         clear hw16
         go_wp2_with (go_at_call 46; (with_reducible refine (back_any _ _ _ _).mono ?_); rintro e w18 ⟨rfl, hw18⟩; rw [← hw17] at hw18; rw [hz16]; clear hw17 hz16)
         have HTT2 : Hid (∀ b, (S b ∨ b = gq + 1) → b < w17.heap.size ∧ b ≠ ga ∧ b ≠ gt) := fun b hb => by
          have h := HDR.out.ds.far; have h2 := HDR.out.far; have h3 := HZ17.out
          rcases hb with hb | rfl
          · have := HDOM.out b hb; omega
          · omega
         refine (wpIn_wide (n := 10)).1 ?_
         refine wp_range (by omega) (gf := 90) (lb := #[.pointer (some ⟨gq + 1, 0, none⟩)]) rfl (enters_of Tryd.func90 (by kernel_rfl) rfl)
          (back_stops Fence.wide 9 trivial rfl (by omega) (gq + 1) nI cI aI t.Ins HNI.out.symm (by omega) _ (fun b hb => (HTT2.out b (.inl hb)).1) (HBS.out.cell (j := 0) rfl) HBS.out.lt (HAL.out w17 HW17.out).ins) (fun b hb => (HTT2.out b hb).1) (Below.refl _ _) (fun _ => rfl)
          (fun pre W => DR S w nI gu ga gb (gb + 1) B CL (.slice aC nE cC) (usedL t nE t.Ins.length) (exL t nE) gt gq (gq + 2) (stD tt nI (valsI pre)) W) (fun _ _ _ => False) (fun pre W W' h hb hc => h.low (by rw [← HZ17.out]; exact hb)) (fun _ _ _ _ h _ _ => h.elim)
          (fun pre W h => by rw [HZ17.out]; exact h.size) (fun _ _ _ h => h.elim) HDR.out
          (fun x a' W => ∃ Bx, gq + 2 ≤ Bx ∧ Row W Bx 43 #[.int .i64 x.val.2.Op, .int .i64 x.val.2.A, .int .i64 x.val.2.B, .int .i64 x.val.2.C, .int .i64 x.val.2.N, .int .i64 x.val.2.Exit, .int .i64 x.val.2.K.Kind, .int .i64 x.val.2.K.N] ∧ a' = { tmps := #[.agg P, .agg T, .pointer (some ⟨w.heap.size, 0, none⟩), .pointer (some ⟨w.heap.size + 1, 0, none⟩), .pointer (some ⟨w.heap.size + 2, 0, none⟩), .int .i64 0, .int .i64 0, .slice (some ⟨gu, 0, none⟩) nE nE, undef, u9, .pointer (some ⟨gb, 0, none⟩), .pointer (some ⟨gb + 1, 0, none⟩), u12, u13, .pointer (some ⟨gq, 0, none⟩), .int .i64 (x.val.1 : Int), .pointer (some ⟨Bx, 0, none⟩), .agg P, .agg T, .int .i64 0, .int .i64 0, .bool false, undef, undef, .pointer (some ⟨w.heap.size + 1, 4, none⟩), .slice aE nE cE, .int .i64 (nE : Int), .slice (some ⟨gu, 0, none⟩) nE nE, .pointer (some ⟨w.heap.size + 1, 3, none⟩), .slice aI nI cI, .int .i64 (nI : Int), .int .i64 (nI : Int), .bool false, u33, u34, u35, u36, u37, u38, u39, u40, u41, u42, .pointer (some ⟨w.heap.size + 1, 3, none⟩), .slice aI nI cI, .int .i64 (nI : Int), .slice (some ⟨ga, 0, none⟩) nI nI, .func (.func 43) #[] #[.pointer (some ⟨gb, 0, none⟩)], .pointer (some ⟨w.heap.size + 1, 4, none⟩), .slice aE nE cE, .slice aC nE cC, .pointer (some ⟨w.heap.size + 1, 4, none⟩), .pointer (some ⟨w.heap.size + 1, 4, none⟩), .slice aC nE cC, .int .i64 (nE : Int), .int .i64 (nE : Int), .bool false, u57, u58, u59, u60, u61, u62, u63, u64, u65, u66, u67, u68, u69, u70, u71, u72, u73, u74, u75, u76, .func (.func 43) #[] #[.pointer (some ⟨gb, 0, none⟩)], .pointer (some ⟨w.heap.size + 1, 5, none⟩), .agg #[.int .i64 t.Turn.At, .int .i64 t.Turn.Steps, .slice a7 n7 c7, .slice a8 n8 c8], .slice a9t (exVals t.Turn).length c9t, .tuple #[], .func (.func 43) #[] #[.pointer (some ⟨gb, 0, none⟩)], .pointer (some ⟨w.heap.size + 1, 9, none⟩), .agg #[.int .i64 t.Back.At, .int .i64 t.Back.Steps, .slice b7 m7 d7, .slice b8 m8 d8], .slice a10 (exVals t.Back).length c10, .tuple #[], .pointer (some ⟨w.heap.size + 1, 3, none⟩), .slice aI nI cI, .int .i64 (nI : Int), .slice (some ⟨gt, 0, none⟩) nI nI, .pointer (some ⟨w.heap.size + 1, 3, none⟩), .slice aI nI cI, .func (.func 90) #[] #[.pointer (some ⟨gq + 1, 0, none⟩)], .int .i64 (x.val.1 : Int), insV x.val.2, undef, undef, undef, undef, undef, undef, undef, undef, undef, undef, undef, undef, undef, undef, undef, undef, undef, undef, undef, undef, undef, undef, undef, undef, undef, undef, undef, undef, undef, undef, undef, undef, undef, undef, undef, undef, undef, undef, undef, undef], defers := [] })
          (fun x a' W W' h hc => by obtain ⟨Bx, h1, h2, h3⟩ := h; exact ⟨Bx, h1, hc _ _ _ h2, h3⟩) ?assign ?body ?done ?stop
         case assign =>
          rintro lp pre ⟨⟨i, z⟩, hz⟩ W K hdr hK
          have HK := Lib.hid hK; have HD := Lib.hid hdr
          clear hK hdr
          gi_wp2
          exact HK.out _ _ (keepsFrom_below ((Below.refl _ _).alloc (Nat.le_refl _) _)) (Keeps.below (n := W.heap.size) (fun b hb => Nat.lt_of_lt_of_le (HTT2.out b hb).1 (by rw [HZ17.out]; exact HD.out.size)) ((Below.refl _ _).alloc (Nat.le_refl _) _)) (HD.out.low (((Below.refl W.heap.size W).alloc (Nat.le_refl _) _).mono HD.out.size)) ⟨W.heap.size, HD.out.size, row_new W _ _, rfl⟩
         case stop =>
          rintro D c pre W hD hp h hK
          exact h.elim
         case done =>
          rintro D xs W hD hxs hdr hK
          have HND : Hid (tt.Ins.length = nI) := by show _ = _; rw [HTI.out, HNI.out]
          have hq : stD tt nI (valsI xs) = (askK tt nI nI, toK tt nI nI) := by
           have h : valsI xs = upto (backOf t.Ins) nI := hxs
           rw [h, ← HTI.out]
           refine stD_back HND.out (fun i x hx v hv => ?_) nI (Nat.le_refl _)
           obtain ⟨k, -, rfl, -⟩ := valAt_iff.1 (HRB.out.asks i x hx v hv)
           omega
          have hto : toK tt nI nI = deadTo tt := by
           have h := toK_all (t := tt)
           rw [HND.out] at h
           exact h
          rw [hq, hto] at hdr
          have HK := Lib.hid hK; have HDR := Lib.hid hdr
          have hDL : D < W.heap.size := (Array.getElem?_eq_some_iff.1 hK).1
          have hD2 : gq + 2 ≤ D := by rw [← HZ17.out]; exact hD
          have HRTR : Hid (Row W (w.heap.size + 1) 34 CL) := hdr.ds.tb
          have HSR : Hid (Row W (w.heap.size + 2) 34 zeroTL.toArray) := hdr.ds.res
          have g0 := hdr.tbx.cell (j := 0) rfl
          have gl := hdr.tbx.lt
          have hrep : Rep.cells (fun b => b < W.heap.size) W CL.toList tt := by
           obtain ⟨a, c, hv, e1, e2, e3⟩ := hdr.ds.ex.arr
           injection hv with v1 v2 v3
           subst v1
           subst v3
           have hz := HDR.out.ds.below.size
           have h := rep_exits (S := S) (S2 := fun b => b < W.heap.size) (HTE.out W hdr.ds.below) (fun b hb => Nat.lt_of_lt_of_le (HDOM.out b hb) hz) e1 e2 (e3.mono (fun b hb => by rcases hb with hb | hb; exact Nat.lt_of_lt_of_le (HDOM.out b hb) hz; exact hb.2)) (C := CL) (by rw [HCE.out, ← v2])
           have ht : (⟨t.Fn, t.At, t.Loop, t.Ins, exL t nE, t.Turn, t.Back⟩ : Api.TTrace) = tt := by
            rw [HTT.out, ← bareL_all, ← HNE.out]
            rfl
           rw [ht] at h
           exact h
          have HCUT : Hid (Calls Tryd.prog 37 #[.agg CL, .slice (some ⟨gt, 0, none⟩) nI nI] W (PassOut W (cutT tt (deadTo tt), 0))) := by
           have hl := deadTo_len tt
           have hi : ∀ z ∈ deadTo tt, I64 z := fun z hz => by
            obtain ⟨j, hj⟩ := List.getElem?_of_mem hz
            have hlt := (List.getElem?_eq_some_iff.1 hj).1
            rw [hl] at hlt
            rw [deadTo_at hlt] at hj
            have h := Option.some.inj hj
            have := HND.out
            rw [← h]
            unfold I64
            split <;> omega
           have hright : toRight tt (deadTo tt) = true := by
            unfold toRight
            rw [hl, deadTo_ok]
            simp
           exact icut_out (S := fun b => b < W.heap.size) (R := fun b => b = gt) hrep (fun b h => h) (hdr.nums.arr hi (by rw [hl, HND.out]; unfold maxLen; omega) rfl) (fun b hb' => by rw [hb']; exact hdr.nums.lt) (by rw [hl, HND.out]) HRB.out hright (dead_fine HRB.out)
          clear hdr hK hxs hq hto hrep hD
          go_wp2_with (first
           | (with_reducible refine ldT rfl rfl rfl HRTR.out hsC ?_)
           | (go_at_call 37; (with_reducible refine HCUT.out.mono ?_); rintro e w20 ⟨C, hC1, hC2, rfl, hr7, hb7⟩; have HC1 := Lib.hid hC1; have HC2 := Lib.hid hC2; have HR7 := Lib.hid hr7; have HB7 := Lib.hid hb7; have HS7 := Lib.hid (HSR.out.keep (hb7.block _ HSR.out.lt)); clear hC1 hC2 hr7 hb7)
           | (with_reducible refine stT (OLD := zeroTL.toArray) (C := C) rfl rfl rfl rfl HS7.out HC1.out rfl HC2.out ?_))
          obtain ⟨w21, hw21⟩ : ∃ w21, w21 = w20.setRow (w.heap.size + 2) C := ⟨_, rfl⟩
          rw [← hw21]
          have hfar := HDR.out.ds.far; have hfar2 := HDR.out.far; have hsz := HDR.out.ds.below.size
          have hd : w21.heap[D]? = some (.deferred (some [])) := by rw [hw21]; exact (setRow_other _ _ _ _ (by omega)).trans ((HB7.out.block _ hDL).trans HK.out)
          have hyb : Row w21 (w.heap.size + 2) 34 C := by rw [hw21]; exact setRow_heap _ _ _ _ _ _ HS7.out
          have hk : ∀ b, b ≠ D → (w21.putObj D (.deferred none)).heap[b]? = w21.heap[b]? := fun b hb => World.putObj_heap_other hb
          refine HQ.out C _ _ D hd rfl HC1.out HC2.out (results_cell_slot rfl _ _ _ _ _ _ _ rfl rfl (hyb.keep (hk _ (by omega))) Tryd.underlying34 rfl (infoT HC1.out)) ?_ ?_
          · rw [← HTT.out]
            have h1 : Rep.cells (Fresh W w20) (w21.putObj D (.deferred none)) C.toList (cutT tt (deadTo tt)) := Rep.keep (fun b hb => (hk b (by have := hb.1; omega)).trans (by rw [hw21]; exact setRow_other _ _ _ _ (by have := hb.1; omega))) HR7.out
            have hss : (w21.putObj D (.deferred none)).heap.size = w20.heap.size := by rw [hw21]; simp [World.setRow, World.putObj]
            exact Rep.mono (fun b hb => ⟨Nat.le_trans HDR.out.ds.below.size hb.1, by rw [hss]; exact hb.2⟩) h1
          · exact below_taken (by rw [hw21]; exact below_setRow (HDR.out.ds.below.trans (HB7.out.mono hsz)) (by omega) _) (by omega)
         case body =>
          rintro lp pre ⟨⟨i, z⟩, hz⟩ a' W hl hdr ⟨Bx, hBx, hblk, rfl⟩ hlt
          replace hz : t.Ins[i]? = some z := hz
          obtain ⟨A, hA⟩ : ∃ A, A = (stD tt nI (valsI pre)).1 := ⟨_, rfl⟩
          obtain ⟨l, hl2⟩ : ∃ l, l = (stD tt nI (valsI pre)).2 := ⟨_, rfl⟩
          have hst : stD tt nI (valsI pre) = (A, l) := by rw [hA, hl2]
          have hsl := stD_len tt nI (valsI pre)
          rw [← hA, ← hl2] at hsl
          rw [hst] at hdr
          have HSN : Hid (stD tt nI (valsI (pre ++ [(⟨(i, z), hz⟩ : AtI t.Ins)])) = stepD tt (A, l) (i, z)) := by show _ = _; rw [valsI_snoc, stD_snoc, hst]
          have hin : i < nI := by rw [HNI.out]; exact (List.getElem?_eq_some_iff.1 hz).1
          obtain ⟨a, ha⟩ : ∃ a, A[i]? = some a := ⟨_, List.getElem?_eq_getElem (by rw [hsl.1]; exact hin)⟩
          obtain ⟨m, hm⟩ : ∃ m, l[i]? = some m := ⟨_, List.getElem?_eq_getElem (by rw [hsl.2]; exact hin)⟩
          obtain ⟨bi, oi, haI, hSi, -, -, -, -, -, -, -, -, j0, j1, j2, j3, j4, j5, j6, j7⟩ := api_TIns_elem (HAL.out W hdr.ds.below).ins hz
          clear haI hSi
          have HJ : Hid (I64 z.A ∧ I64 z.B ∧ I64 z.C) := ⟨j1, j2, j3⟩
          have g0 := hdr.tbx.cell (j := 0) rfl
          have gl := hdr.tbx.lt
          have n0 := hdr.nums.cell (j := i) (v := .int .i64 m) (by rw [List.getElem?_map, hm]; rfl)
          have n1 := hdr.nums.frozen i
          have n2 := hdr.nums.lt
          have hii : (i : Int) < (nI : Int) := by omega
          have HD1 : Hid (DR S w nI gu ga gb (gb + 1) B CL (.slice aC nE cC) (usedL t nE t.Ins.length) (exL t nE) gt gq (gq + 2) (A, l.set i (-1)) (W.setCell ⟨gt, i, none⟩ (.int .i64 (-1)))) := hdr.put i (-1)
          have hfar := hdr.ds.far; have hfar2 := hdr.far
          have HX1 : Hid (Row (W.setCell ⟨gt, i, none⟩ (.int .i64 (-1))) Bx 43 #[.int .i64 z.Op, .int .i64 z.A, .int .i64 z.B, .int .i64 z.C, .int .i64 z.N, .int .i64 z.Exit, .int .i64 z.K.Kind, .int .i64 z.K.N]) := hblk.keep (Go.Bk.blk_setCell_other _ _ _ (show Bx ≠ gt by omega))
          have HT1 : Hid (TW ga gt W (W.setCell ⟨gt, i, none⟩ (.int .i64 (-1)))) := (TW.refl ga gt W).put i _
          have b0 := HD1.out.ds.bx.cell (j := 0) rfl
          have bl : gb < W.heap.size := hdr.ds.bx.lt
          have k0 := HD1.out.ds.ask.cell (boolsV_get ha)
          have kl : ga < W.heap.size := hdr.ds.ask.lt
          have q5 := HX1.out.cell (j := 5) rfl
          have q0 := HX1.out.cell (j := 0) rfl
          have ql : Bx < W.heap.size := hblk.lt
          have hway := HR.out.way i z hz
          obtain ⟨te, hte⟩ : ∃ te, te = tellsOf z.Op := ⟨_, rfl⟩
          have HTL : Hid (∀ W', Calls Tryd.prog 29 #[.int .i64 z.Op] W' fun e w' => e = .returned (.bool te) ∧ Below W'.heap.size W' w') := fun W' => by rw [hte]; exact tells_any
          have HAS : Hid (∀ W', Calls Tryd.prog 28 #[.agg #[.int .i64 z.Op, .int .i64 z.A, .int .i64 z.B, .int .i64 z.C, .int .i64 z.N, .int .i64 z.Exit, .int .i64 z.K.Kind, .int .i64 z.K.N]] W' fun e w' => (∃ a c, e = .returned (.slice a (asksOf z).length c) ∧ (a = none → c = 0) ∧ Arr (Fresh W' w') w' a (asksOf z)) ∧ Below W'.heap.size W' w') := fun W' => asks_any j1 j2 j3
          have HAN : Hid (∀ v ∈ asksOf z, 0 ≤ v ∧ v < (nI : Int)) := fun v hv => by
           obtain ⟨k, y, rfl, -, hy, -⟩ := valAt_iff.1 (HR.out.asks i z hz v hv)
           have := (List.getElem?_eq_some_iff.1 hy).1
           rw [← HNI.out] at this
           omega
          have HKE : Hid (∀ ke : Bool, (a || ((decide (0 ≤ z.Exit) || !te) || (decide (i = 0) && decide (0 < t.Loop)))) = ke → stepD tt (A, l) (i, z) = if ke then (markL A (asksOf z), (l.set i (-1)).set i (i : Int)) else (A, l.set i (-1))) := fun ke hke => by
           unfold stepD
           dsimp only
           rw [ha, ← hke, hte, ← HTE9.out.2.2.1]
           rfl
          have HLN : Hid (A.length = nI) := hsl.1
          have HIL : Hid (i < l.length) := by show _ < _; rw [hsl.2]; exact hin
          have HSZ : Hid (gq + 2 ≤ W.heap.size) := hdr.size
          clear hdr hblk hA hl2 hst hsl ha hm hte j0 j1 j2 j3 j4 j5 j6 j7 hl hlt
          cases a
          case' true =>
           have HKT : Hid ((true || ((decide (0 ≤ z.Exit) || !te) || (decide (i = 0) && decide (0 < t.Loop)))) = true) := by show _ = _; simp
           have HDK := HD1; have HXK := HX1; have HTK := HT1
           have g0' := HDK.out.tbx.cell (j := 0) rfl
           have gl' := HDK.out.tbx.lt
           have n0' := HDK.out.nums.cell (j := i) (v := .int .i64 (-1)) (by show ((l.set i (-1)).map _)[i]? = _; rw [List.getElem?_map, List.getElem?_set_self HIL.out]; rfl)
           have n1' := HDK.out.nums.frozen i
           have n2' := HDK.out.nums.lt
           gi_wp2_with (refine ⟨trivial, ?_⟩)
           obtain ⟨w30, hw30⟩ : ∃ w30, w30 = (W.setCell ⟨gt, i, none⟩ (.int .i64 (-1))).setCell ⟨gt, i, none⟩ (.int .i64 (i : Int)) := ⟨_, rfl⟩
           have HDP : Hid (DR S w nI gu ga gb (gb + 1) B CL (.slice aC nE cC) (usedL t nE t.Ins.length) (exL t nE) gt gq (gq + 2) (A, (l.set i (-1)).set i (i : Int)) w30) := by show DR _ _ _ _ _ _ _ _ _ _ _ _ _ _ _ _ _; rw [hw30]; exact HDK.out.put i (i : Int)
           have HXP : Hid (Row w30 Bx 43 #[.int .i64 z.Op, .int .i64 z.A, .int .i64 z.B, .int .i64 z.C, .int .i64 z.N, .int .i64 z.Exit, .int .i64 z.K.Kind, .int .i64 z.K.N]) := by show Row _ _ _ _; rw [hw30]; exact HXK.out.keep (Go.Bk.blk_setCell_other _ _ _ (show Bx ≠ gt by omega))
           have HTP : Hid (TW ga gt W w30) := by show TW _ _ _ _; rw [hw30]; exact HTK.out.put i _
           rw [← hw30]
           clear hw30 HDK HXK HTK
          case' false =>
           rcases hway with hm | ⟨h0, h1⟩
           case' inr =>
            obtain ⟨e, he⟩ : ∃ e : Nat, z.Exit = e := ⟨z.Exit.toNat, by omega⟩
            rw [he] at q5
            have HKT : Hid ((false || ((decide (0 ≤ z.Exit) || !te) || (decide (i = 0) && decide (0 < t.Loop)))) = true) := by show _ = _; rw [decide_eq_true h0]; simp
            clear he h0 h1
            have HDK := HD1; have HXK := HX1; have HTK := HT1
            have g0' := HDK.out.tbx.cell (j := 0) rfl
            have gl' := HDK.out.tbx.lt
            have n0' := HDK.out.nums.cell (j := i) (v := .int .i64 (-1)) (by show ((l.set i (-1)).map _)[i]? = _; rw [List.getElem?_map, List.getElem?_set_self HIL.out]; rfl)
            have n1' := HDK.out.nums.frozen i
            have n2' := HDK.out.nums.lt
            gi_wp2_with (refine ⟨trivial, ?_⟩)
            obtain ⟨w30, hw30⟩ : ∃ w30, w30 = (W.setCell ⟨gt, i, none⟩ (.int .i64 (-1))).setCell ⟨gt, i, none⟩ (.int .i64 (i : Int)) := ⟨_, rfl⟩
            have HDP : Hid (DR S w nI gu ga gb (gb + 1) B CL (.slice aC nE cC) (usedL t nE t.Ins.length) (exL t nE) gt gq (gq + 2) (A, (l.set i (-1)).set i (i : Int)) w30) := by show DR _ _ _ _ _ _ _ _ _ _ _ _ _ _ _ _ _; rw [hw30]; exact HDK.out.put i (i : Int)
            have HXP : Hid (Row w30 Bx 43 #[.int .i64 z.Op, .int .i64 z.A, .int .i64 z.B, .int .i64 z.C, .int .i64 z.N, .int .i64 z.Exit, .int .i64 z.K.Kind, .int .i64 z.K.N]) := by show Row _ _ _ _; rw [hw30]; exact HXK.out.keep (Go.Bk.blk_setCell_other _ _ _ (show Bx ≠ gt by omega))
            have HTP : Hid (TW ga gt W w30) := by show TW _ _ _ _; rw [hw30]; exact HTK.out.put i _
            rw [← hw30]
            clear hw30 HDK HXK HTK
           case' inl =>
            have he0 : decide (0 ≤ z.Exit) = false := by rw [decide_eq_false_iff_not]; omega
            rw [hm] at q5
            clear hm
            cases te
            case' false =>
             have HKT : Hid ((false || ((decide (0 ≤ z.Exit) || !false) || (decide (i = 0) && decide (0 < t.Loop)))) = true) := by show _ = _; rw [he0]; simp
             have HNV : Hid (((l.set i (-1)).map (Value.int .i64))[i]? = some (.int .i64 (-1))) := by show _ = _; rw [List.getElem?_map, List.getElem?_set_self HIL.out]; rfl
             have HCL2 : Hid (CL.toList[2]? = some (.int .i64 t.Loop)) := by show _ = _; rw [HCQ.out]; rfl
             gi_wp2_with (first | (refine ⟨trivial, ?_⟩; gi_at_call 29; refine (CallsIn.inRound lp (callsIn_wide.2 (HTL.out _))).mono ?_; rintro e w9 ⟨rfl, hb⟩; have HDK := Lib.hid (HD1.out.low (hb.mono HD1.out.size)); have HXK := Lib.hid (HX1.out.keep (hb.block _ HX1.out.lt)); have HTK := Lib.hid (HT1.out.below hb); have g0' := HDK.out.tbx.cell (j := 0) rfl; have gl' := HDK.out.tbx.lt; have n0' := HDK.out.nums.cell (j := i) (v := .int .i64 (-1)) HNV.out; have n1' := HDK.out.nums.frozen i; have n2' := HDK.out.nums.lt; have c2 := HDK.out.ds.tb.cell (j := 2) HCL2.out; have c2l := HDK.out.ds.tb.lt; clear hb) | (refine ⟨trivial, ?_⟩))
             obtain ⟨w30, hw30⟩ : ∃ w30, w30 = w9.setCell ⟨gt, i, none⟩ (.int .i64 (i : Int)) := ⟨_, rfl⟩
             have HDP : Hid (DR S w nI gu ga gb (gb + 1) B CL (.slice aC nE cC) (usedL t nE t.Ins.length) (exL t nE) gt gq (gq + 2) (A, (l.set i (-1)).set i (i : Int)) w30) := by show DR _ _ _ _ _ _ _ _ _ _ _ _ _ _ _ _ _; rw [hw30]; exact HDK.out.put i (i : Int)
             have HXP : Hid (Row w30 Bx 43 #[.int .i64 z.Op, .int .i64 z.A, .int .i64 z.B, .int .i64 z.C, .int .i64 z.N, .int .i64 z.Exit, .int .i64 z.K.Kind, .int .i64 z.K.N]) := by show Row _ _ _ _; rw [hw30]; exact HXK.out.keep (Go.Bk.blk_setCell_other _ _ _ (show Bx ≠ gt by omega))
             have HTP : Hid (TW ga gt W w30) := by show TW _ _ _ _; rw [hw30]; exact HTK.out.put i _
             rw [← hw30]
             clear hw30 HDK HXK HTK
            case' true =>
             by_cases hi0 : i = 0
             case' neg =>
              as_aux_lemma =>
               have z1 : (((i : Nat) : Int) == 0) = false := by simpa using hi0
               have HKT : Hid ((false || ((decide (0 ≤ z.Exit) || !true) || (decide (i = 0) && decide (0 < t.Loop)))) = false) := by show _ = _; rw [he0, decide_eq_false hi0]; rfl
               clear hi0 he0
               have HNV : Hid (((l.set i (-1)).map (Value.int .i64))[i]? = some (.int .i64 (-1))) := by show _ = _; rw [List.getElem?_map, List.getElem?_set_self HIL.out]; rfl
               have HCL2 : Hid (CL.toList[2]? = some (.int .i64 t.Loop)) := by show _ = _; rw [HCQ.out]; rfl
               gi_wp2_with (first | (refine ⟨trivial, ?_⟩; gi_at_call 29; refine (CallsIn.inRound lp (callsIn_wide.2 (HTL.out _))).mono ?_; rintro e w9 ⟨rfl, hb⟩; have HDK := Lib.hid (HD1.out.low (hb.mono HD1.out.size)); have HXK := Lib.hid (HX1.out.keep (hb.block _ HX1.out.lt)); have HTK := Lib.hid (HT1.out.below hb); have g0' := HDK.out.tbx.cell (j := 0) rfl; have gl' := HDK.out.tbx.lt; have n0' := HDK.out.nums.cell (j := i) (v := .int .i64 (-1)) HNV.out; have n1' := HDK.out.nums.frozen i; have n2' := HDK.out.nums.lt; have c2 := HDK.out.ds.tb.cell (j := 2) HCL2.out; have c2l := HDK.out.ds.tb.lt; clear hb) | (refine ⟨trivial, ?_⟩))
               have hlast : DR S w nI gu ga gb (gb + 1) B CL (.slice aC nE cC) (usedL t nE t.Ins.length) (exL t nE) gt gq (gq + 2) (stD tt nI (valsI (pre ++ [(⟨(i, z), hz⟩ : AtI t.Ins)]))) w9 := by
                rw [HSN.out, HKE.out false HKT.out, if_neg (by decide)]
                exact HDK.out
               exact ⟨HTK.out.from (by have := HZ17.out; omega) (by have := HZ17.out; omega), HTK.out.keeps (fun b hb => ⟨Nat.lt_of_lt_of_le (HTT2.out b hb).1 (by rw [HZ17.out]; exact HSZ.out), (HTT2.out b hb).2⟩), hlast⟩
             case' pos =>
              have z1 : (((i : Nat) : Int) == 0) = true := by rw [hi0]; rfl
              by_cases hl0 : 0 < t.Loop
              case' neg =>
               as_aux_lemma =>
                have l1 : decide (0 < t.Loop) = false := decide_eq_false hl0
                have l2 : decide (t.Loop > 0) = false := decide_eq_false hl0
                have HKT : Hid ((false || ((decide (0 ≤ z.Exit) || !true) || (decide (i = 0) && decide (0 < t.Loop)))) = false) := by show _ = _; rw [he0, l1]; simp
                clear hi0 hl0 he0
                have HNV : Hid (((l.set i (-1)).map (Value.int .i64))[i]? = some (.int .i64 (-1))) := by show _ = _; rw [List.getElem?_map, List.getElem?_set_self HIL.out]; rfl
                have HCL2 : Hid (CL.toList[2]? = some (.int .i64 t.Loop)) := by show _ = _; rw [HCQ.out]; rfl
                gi_wp2_with (first | (refine ⟨trivial, ?_⟩; gi_at_call 29; refine (CallsIn.inRound lp (callsIn_wide.2 (HTL.out _))).mono ?_; rintro e w9 ⟨rfl, hb⟩; have HDK := Lib.hid (HD1.out.low (hb.mono HD1.out.size)); have HXK := Lib.hid (HX1.out.keep (hb.block _ HX1.out.lt)); have HTK := Lib.hid (HT1.out.below hb); have g0' := HDK.out.tbx.cell (j := 0) rfl; have gl' := HDK.out.tbx.lt; have n0' := HDK.out.nums.cell (j := i) (v := .int .i64 (-1)) HNV.out; have n1' := HDK.out.nums.frozen i; have n2' := HDK.out.nums.lt; have c2 := HDK.out.ds.tb.cell (j := 2) HCL2.out; have c2l := HDK.out.ds.tb.lt; clear hb) | (refine ⟨trivial, ?_⟩))
                have hlast : DR S w nI gu ga gb (gb + 1) B CL (.slice aC nE cC) (usedL t nE t.Ins.length) (exL t nE) gt gq (gq + 2) (stD tt nI (valsI (pre ++ [(⟨(i, z), hz⟩ : AtI t.Ins)]))) w9 := by
                 rw [HSN.out, HKE.out false HKT.out, if_neg (by decide)]
                 exact HDK.out
                exact ⟨HTK.out.from (by have := HZ17.out; omega) (by have := HZ17.out; omega), HTK.out.keeps (fun b hb => ⟨Nat.lt_of_lt_of_le (HTT2.out b hb).1 (by rw [HZ17.out]; exact HSZ.out), (HTT2.out b hb).2⟩), hlast⟩
              case' pos =>
               have l1 : decide (0 < t.Loop) = true := decide_eq_true hl0
               have l2 : decide (t.Loop > 0) = true := decide_eq_true hl0
               have HKT : Hid ((false || ((decide (0 ≤ z.Exit) || !true) || (decide (i = 0) && decide (0 < t.Loop)))) = true) := by show _ = _; rw [he0, l1, decide_eq_true hi0]; rfl
               clear hi0 hl0 he0
               have HNV : Hid (((l.set i (-1)).map (Value.int .i64))[i]? = some (.int .i64 (-1))) := by show _ = _; rw [List.getElem?_map, List.getElem?_set_self HIL.out]; rfl
               have HCL2 : Hid (CL.toList[2]? = some (.int .i64 t.Loop)) := by show _ = _; rw [HCQ.out]; rfl
               gi_wp2_with (first | (refine ⟨trivial, ?_⟩; gi_at_call 29; refine (CallsIn.inRound lp (callsIn_wide.2 (HTL.out _))).mono ?_; rintro e w9 ⟨rfl, hb⟩; have HDK := Lib.hid (HD1.out.low (hb.mono HD1.out.size)); have HXK := Lib.hid (HX1.out.keep (hb.block _ HX1.out.lt)); have HTK := Lib.hid (HT1.out.below hb); have g0' := HDK.out.tbx.cell (j := 0) rfl; have gl' := HDK.out.tbx.lt; have n0' := HDK.out.nums.cell (j := i) (v := .int .i64 (-1)) HNV.out; have n1' := HDK.out.nums.frozen i; have n2' := HDK.out.nums.lt; have c2 := HDK.out.ds.tb.cell (j := 2) HCL2.out; have c2l := HDK.out.ds.tb.lt; clear hb) | (refine ⟨trivial, ?_⟩))
               obtain ⟨w30, hw30⟩ : ∃ w30, w30 = w9.setCell ⟨gt, i, none⟩ (.int .i64 (i : Int)) := ⟨_, rfl⟩
               have HDP : Hid (DR S w nI gu ga gb (gb + 1) B CL (.slice aC nE cC) (usedL t nE t.Ins.length) (exL t nE) gt gq (gq + 2) (A, (l.set i (-1)).set i (i : Int)) w30) := by show DR _ _ _ _ _ _ _ _ _ _ _ _ _ _ _ _ _; rw [hw30]; exact HDK.out.put i (i : Int)
               have HXP : Hid (Row w30 Bx 43 #[.int .i64 z.Op, .int .i64 z.A, .int .i64 z.B, .int .i64 z.C, .int .i64 z.N, .int .i64 z.Exit, .int .i64 z.K.Kind, .int .i64 z.K.N]) := by show Row _ _ _ _; rw [hw30]; exact HXK.out.keep (Go.Bk.blk_setCell_other _ _ _ (show Bx ≠ gt by omega))
               have HTP : Hid (TW ga gt W w30) := by show TW _ _ _ _; rw [hw30]; exact HTK.out.put i _
               rw [← hw30]
               clear hw30 HDK HXK HTK
          all_goals
           as_aux_lemma =>
            have HC0 := Lib.hid (HDP.out.low (W' := w30.drew) (Below.refl _ _).drew)
            have cf0 := HC0.out.ds.clo.cell (j := 0) rfl
            have cfl := HC0.out.ds.clo.lt
            have x0 := HXP.out.cell (j := 0) rfl
            have x1 := HXP.out.cell (j := 1) rfl
            have x2 := HXP.out.cell (j := 2) rfl
            have x3 := HXP.out.cell (j := 3) rfl
            have x4 := HXP.out.cell (j := 4) rfl
            have x5 := HXP.out.cell (j := 5) rfl
            have x6 := HXP.out.cell (j := 6) rfl
            have x7 := HXP.out.cell (j := 7) rfl
            have xl := HXP.out.lt
            refine wpIn_region_aft (.two 0 (.one 1 (.one 2 (.one 3 .fin))) 1 (.two 0 (.one 2 (.one 3 .fin)) 2 (.one 0 (.one 3 .fin)))) (by kernel_rfl) (by kernel_rfl) (by kernel_rfl) ?_
            refine aftIn_two (by repeat (first | with_reducible exact nth_zero | with_reducible apply nth_succ)) (by rfl) (by repeat (first | with_reducible exact nth_zero | with_reducible apply nth_succ)) (by rfl) (fun RR HRR => ?_) (fun RR HRR => ?_)
            · skip
              gi_wp2_with fail
              refine AfterT.normal (HRR _ _ ?_)
              clear HRR RR
              refine aftIn_one (by repeat (first | with_reducible exact nth_zero | with_reducible apply nth_succ)) (by rfl) fun RR HRR => ?_
              gi_wp2_with fail
              refine AfterT.normal (HRR _ _ ?_)
              clear HRR RR
              refine aftIn_one (by repeat (first | with_reducible exact nth_zero | with_reducible apply nth_succ)) (by rfl) fun RR HRR => ?_
              gi_wp2_with (refine ⟨trivial, ?_⟩; gi_at_call 28; refine (CallsIn.inRound lp (callsIn_wide.2 (HAS.out _))).mono ?_; rintro e w31 ⟨⟨a9, c9, rfl, -, har⟩, hb⟩; have HAR := Lib.hid har; have HB31 : Hid (Below w30.heap.size w30 w31) := (Below.refl _ _).drew.trans hb; have hf31 := (HC0.out.low (hb.mono HC0.out.size)).ds.clo.cell (j := 0) rfl; have hl31 := (HC0.out.low (hb.mono HC0.out.size)).ds.clo.lt; clear har hb)
              refine AfterT.normal (HRR _ _ ?_)
              clear HRR RR
              have HDA := Lib.hid (HDP.out.low (HB31.out.mono HDP.out.size))
              have HMK : Hid (Calls Tryd.prog 43 #[.slice a9 (asksOf z).length c9, .pointer (some ⟨gb, 0, none⟩)] w31 (MarkPost w31 ga (markL A (asksOf z)))) := by
               have hl9 : ga < w30.heap.size := HDP.out.ds.ask.lt
               refine mark_any HAR.out (fun b hb => ⟨hb.2, fun e => ?_⟩) rfl HLN.out (by omega) HAN.out HDA.out.ds.bx HDA.out.ds.ask (by omega)
               have h9 : w30.drew.heap.size ≤ b := hb.1
               have h8 : w30.drew.heap.size = w30.heap.size := rfl
               omega
              refine aftIn_one (by repeat (first | with_reducible exact nth_zero | with_reducible apply nth_succ)) (by rfl) fun RR HRR => ?_
              gi_wp2_with (refine ⟨trivial, ?_⟩; gi_at_call 43; refine (CallsIn.inRound lp (callsIn_wide.2 HMK.out)).mono ?_; rintro e w32 ⟨rfl, hbk, hwr⟩; have HBK := Lib.hid hbk; have HWR := Lib.hid hwr; clear hbk hwr)
              refine AfterT.normal (HRR _ _ ?_)
              clear HRR RR
              refine aftIn_fin ?_
              have HDN := Lib.hid (HDA.out.mark HWR.out HBK.out)
              have HTN : Hid (TW ga gt W w32) := (HTP.out.below HB31.out).mark HWR.out
              gi_wp2_with fail
              have hlast : DR S w nI gu ga gb (gb + 1) B CL (.slice aC nE cC) (usedL t nE t.Ins.length) (exL t nE) gt gq (gq + 2) (stD tt nI (valsI (pre ++ [(⟨(i, z), hz⟩ : AtI t.Ins)]))) w32 := by
               rw [HSN.out, HKE.out true HKT.out, if_pos rfl]
               exact HDN.out
              exact ⟨HTN.out.from (by have := HZ17.out; omega) (by have := HZ17.out; omega), HTN.out.keeps (fun b hb => ⟨Nat.lt_of_lt_of_le (HTT2.out b hb).1 (by rw [HZ17.out]; exact HSZ.out), (HTT2.out b hb).2⟩), hlast⟩
            · skip
              gi_wp2_with fail
              refine AfterT.normal (HRR _ _ ?_)
              clear HRR RR
              refine aftIn_two (by repeat (first | with_reducible exact nth_zero | with_reducible apply nth_succ)) (by rfl) (by repeat (first | with_reducible exact nth_zero | with_reducible apply nth_succ)) (by rfl) (fun RR HRR => ?_) (fun RR HRR => ?_)
              · skip
                gi_wp2_with fail
                refine AfterT.normal (HRR _ _ ?_)
                clear HRR RR
                refine aftIn_one (by repeat (first | with_reducible exact nth_zero | with_reducible apply nth_succ)) (by rfl) fun RR HRR => ?_
                gi_wp2_with (refine ⟨trivial, ?_⟩; gi_at_call 28; refine (CallsIn.inRound lp (callsIn_wide.2 (HAS.out _))).mono ?_; rintro e w31 ⟨⟨a9, c9, rfl, -, har⟩, hb⟩; have HAR := Lib.hid har; have HB31 : Hid (Below w30.heap.size w30 w31) := (Below.refl _ _).drew.trans hb; have hf31 := (HC0.out.low (hb.mono HC0.out.size)).ds.clo.cell (j := 0) rfl; have hl31 := (HC0.out.low (hb.mono HC0.out.size)).ds.clo.lt; clear har hb)
                refine AfterT.normal (HRR _ _ ?_)
                clear HRR RR
                have HDA := Lib.hid (HDP.out.low (HB31.out.mono HDP.out.size))
                have HMK : Hid (Calls Tryd.prog 43 #[.slice a9 (asksOf z).length c9, .pointer (some ⟨gb, 0, none⟩)] w31 (MarkPost w31 ga (markL A (asksOf z)))) := by
                 have hl9 : ga < w30.heap.size := HDP.out.ds.ask.lt
                 refine mark_any HAR.out (fun b hb => ⟨hb.2, fun e => ?_⟩) rfl HLN.out (by omega) HAN.out HDA.out.ds.bx HDA.out.ds.ask (by omega)
                 have h9 : w30.drew.heap.size ≤ b := hb.1
                 have h8 : w30.drew.heap.size = w30.heap.size := rfl
                 omega
                refine aftIn_one (by repeat (first | with_reducible exact nth_zero | with_reducible apply nth_succ)) (by rfl) fun RR HRR => ?_
                gi_wp2_with (refine ⟨trivial, ?_⟩; gi_at_call 43; refine (CallsIn.inRound lp (callsIn_wide.2 HMK.out)).mono ?_; rintro e w32 ⟨rfl, hbk, hwr⟩; have HBK := Lib.hid hbk; have HWR := Lib.hid hwr; clear hbk hwr)
                refine AfterT.normal (HRR _ _ ?_)
                clear HRR RR
                refine aftIn_fin ?_
                have HDN := Lib.hid (HDA.out.mark HWR.out HBK.out)
                have HTN : Hid (TW ga gt W w32) := (HTP.out.below HB31.out).mark HWR.out
                gi_wp2_with fail
                have hlast : DR S w nI gu ga gb (gb + 1) B CL (.slice aC nE cC) (usedL t nE t.Ins.length) (exL t nE) gt gq (gq + 2) (stD tt nI (valsI (pre ++ [(⟨(i, z), hz⟩ : AtI t.Ins)]))) w32 := by
                 rw [HSN.out, HKE.out true HKT.out, if_pos rfl]
                 exact HDN.out
                exact ⟨HTN.out.from (by have := HZ17.out; omega) (by have := HZ17.out; omega), HTN.out.keeps (fun b hb => ⟨Nat.lt_of_lt_of_le (HTT2.out b hb).1 (by rw [HZ17.out]; exact HSZ.out), (HTT2.out b hb).2⟩), hlast⟩
              · skip
                gi_wp2_with (refine ⟨trivial, ?_⟩; gi_at_call 28; refine (CallsIn.inRound lp (callsIn_wide.2 (HAS.out _))).mono ?_; rintro e w31 ⟨⟨a9, c9, rfl, -, har⟩, hb⟩; have HAR := Lib.hid har; have HB31 : Hid (Below w30.heap.size w30 w31) := (Below.refl _ _).drew.trans hb; have hf31 := (HC0.out.low (hb.mono HC0.out.size)).ds.clo.cell (j := 0) rfl; have hl31 := (HC0.out.low (hb.mono HC0.out.size)).ds.clo.lt; clear har hb)
                refine AfterT.normal (HRR _ _ ?_)
                clear HRR RR
                have HDA := Lib.hid (HDP.out.low (HB31.out.mono HDP.out.size))
                have HMK : Hid (Calls Tryd.prog 43 #[.slice a9 (asksOf z).length c9, .pointer (some ⟨gb, 0, none⟩)] w31 (MarkPost w31 ga (markL A (asksOf z)))) := by
                 have hl9 : ga < w30.heap.size := HDP.out.ds.ask.lt
                 refine mark_any HAR.out (fun b hb => ⟨hb.2, fun e => ?_⟩) rfl HLN.out (by omega) HAN.out HDA.out.ds.bx HDA.out.ds.ask (by omega)
                 have h9 : w30.drew.heap.size ≤ b := hb.1
                 have h8 : w30.drew.heap.size = w30.heap.size := rfl
                 omega
                refine aftIn_one (by repeat (first | with_reducible exact nth_zero | with_reducible apply nth_succ)) (by rfl) fun RR HRR => ?_
                gi_wp2_with fail
                refine AfterT.normal (HRR _ _ ?_)
                clear HRR RR
                refine aftIn_one (by repeat (first | with_reducible exact nth_zero | with_reducible apply nth_succ)) (by rfl) fun RR HRR => ?_
                gi_wp2_with (refine ⟨trivial, ?_⟩; gi_at_call 43; refine (CallsIn.inRound lp (callsIn_wide.2 HMK.out)).mono ?_; rintro e w32 ⟨rfl, hbk, hwr⟩; have HBK := Lib.hid hbk; have HWR := Lib.hid hwr; clear hbk hwr)
                refine AfterT.normal (HRR _ _ ?_)
                clear HRR RR
                refine aftIn_fin ?_
                have HDN := Lib.hid (HDA.out.mark HWR.out HBK.out)
                have HTN : Hid (TW ga gt W w32) := (HTP.out.below HB31.out).mark HWR.out
                gi_wp2_with fail
                have hlast : DR S w nI gu ga gb (gb + 1) B CL (.slice aC nE cC) (usedL t nE t.Ins.length) (exL t nE) gt gq (gq + 2) (stD tt nI (valsI (pre ++ [(⟨(i, z), hz⟩ : AtI t.Ins)]))) w32 := by
                 rw [HSN.out, HKE.out true HKT.out, if_pos rfl]
                 exact HDN.out
                exact ⟨HTN.out.from (by have := HZ17.out; omega) (by have := HZ17.out; omega), HTN.out.keeps (fun b hb => ⟨Nat.lt_of_lt_of_le (HTT2.out b hb).1 (by rw [HZ17.out]; exact HSZ.out), (HTT2.out b hb).2⟩), hlast⟩
          -- dbg
end Go.Proofs.YtekofpigmggbbaaDoor.ded
