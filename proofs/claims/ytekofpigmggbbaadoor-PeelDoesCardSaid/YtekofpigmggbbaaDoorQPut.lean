/- put: an instruction with what stands for what it asks; walked. -/
import Derived.Test.YtekofpigmggbbaaDoorQChkE
import Derived.Test.YtekofpigmggbbaaDoorQCutL
import Derived.Test.YtekofpigmggbbaaDoorQChkB
import Derived.Deep.DrawnRows
set_option linter.unusedVariables false
set_option linter.unusedSimpArgs false
namespace Go.Proofs.YtekofpigmggbbaaDoor.cut
open Go.Bk Go.RowKit Go.Proofs.YtekofpigmggbbaaDoor.ir Go.Proofs.YtekofpigmggbbaaDoor.chk
attribute [local go_sem ↓] Go.wp_at_zero Go.wp_at_succ

/-- What stands for a value. -/
def forV (ts : List Int) (v : Int) : Int := (ts[v.toNat]?).getD 0
def putI (ts : List Int) (x : Api.TIns) : Api.TIns := cutIns (forV ts) x
theorem forV_at {ts : List Int} {k : Nat} {v : Int} (h : ts[k]? = some v) : forV ts k = v := by unfold forV; rw [Int.toNat_natCast, h]; rfl
theorem insL_one (x : Api.TIns) : (insL x).toArray.all (·.oneCell') = true := by simp [insL, Value.oneCell']
theorem stI {ops : Array Oper} {Q : Exit → Act → World → Prop} {a : Act} {o : Oper} {w : World} {rest : List Oper} {x y : Operand} {g : Nat} {q : Api.TIns} {OLD : Array Value} (hgd : o.guard = none) (ho : o.op = .store 43 x y) (hx : a.eval x = .pointer (some ⟨g, 0, none⟩)) (hy : a.eval y = .agg (insL q).toArray) (hg : Row w g 43 OLD) (hs' : OLD.size = 8)
    (h : wpList Tryd.prog ops Q rest (a.put o.dst undef) (w.setRow g (insL q).toArray)) : wpList Tryd.prog ops Q (o :: rest) a w :=
  wpList_store_row hgd 43 x y ho g (insL q).toArray hx hy _ OLD hg (infoI rfl) (by rw [hs']; rfl) (insL_one q) h
theorem results_row_I {P : Program} {fn : Func} {p : Tmp} {ty : TypeId} (h : fn.results = #[.cell p ty]) (tmps : Array Value) (w : World) (g : Nat) (t : TypeId) (cs : Array Value) (d : TypeDesc)
    (hp : tmps.getD p undef = .pointer (some ⟨g, 0, none⟩)) (hg : Row w g t cs)
    (hu : P.underlying ty = some d) (hd : (match d with | .struct _ | .array _ _ => true | _ => false) = true) (hi : (P.info? ty).map (·.size) = some cs.size) :
    (results fn tmps).run P w = .ok (.agg cs) w := by
  have hp' : tmps[p]?.getD undef = .pointer (some ⟨g, 0, none⟩) := by simpa using hp
  simp [results, h, hp', asAddr, run_loadVar_row w g t ty cs (0, 0) d hg hu hd hi]
/-- A number of a list of numbers whose place is known. -/
theorem arr_int2 {S : Nat → Prop} {w : World} {b off : Nat} {xs : List Int} (h : Arr S w (some ⟨b, off, none⟩) xs) {k : Nat} {x : Int} (hk : xs[k]? = some x) : w.cell? ⟨b, off + k, none⟩ = some (.int .i64 x) := by
  obtain ⟨b', off', h1, -, h2, -⟩ := arr_int h hk
  injection h1 with h1
  injection h1 with e1 e2
  subst e1; subst e2
  exact h2
def PutPost (w : World) (y : Api.TIns) (e : Ending) (w' : World) : Prop := e = .returned (.agg (insL y).toArray) ∧ Below w.heap.size w w'
set_option maxRecDepth 100000 in
set_option maxHeartbeats 4000000 in
theorem put_any {R : Nat → Prop} {w : World} {x : Api.TIns} {ts : List Int} {aT : Option Addr} {nT cT : Nat} (hts : Arr R w aT ts) (hR : ∀ b, R b → b < w.heap.size) (hn : ts.length = nT) (hx : ∀ v ∈ asksOf x, 0 ≤ v ∧ v < nT) :
    Calls Tryd.prog 40 #[.agg #[.int .i64 x.Op, .int .i64 x.A, .int .i64 x.B, .int .i64 x.C, .int .i64 x.N, .int .i64 x.Exit, .int .i64 x.K.Kind, .int .i64 x.K.N], .slice aT nT cT] w (PutPost w (putI ts x)) := by
  obtain ⟨n, hn3, hasks, htk, hln⟩ := asks_nat x
  rw [htk] at hx
  have hP : putI ts x = cutArgs (forV ts) n x := by unfold putI cutIns; rw [hasks]
  have hnt : nT ≤ 9223372036854775807 := by rw [← hn]; have := hts.small; unfold maxLen at this; omega
  rw [hP]
  obtain ⟨Op, A, B, C, N, Exit, K⟩ := x
  dsimp only at *
  have HV : Hid (∀ w, Calls Tryd.prog 55 #[.int .i64 Op] w fun e w' => e = .returned (.int .i64 n) ∧ Below w.heap.size w w') := fun w => by rw [← hasks]; exact values_any w Op
  obtain ⟨w1, hw1⟩ : ∃ w1, w1 = (w.alloc (.cells #[.int .i64 Op, .int .i64 A, .int .i64 B, .int .i64 C, .int .i64 N, .int .i64 Exit, .int .i64 K.Kind, .int .i64 K.N] 43)).alloc (.cells (insL ⟨0, 0, 0, 0, 0, 0, ⟨0, 0⟩⟩).toArray 43) := ⟨_, rfl⟩
  obtain ⟨rX, rZ, hb1, hz1⟩ := rows2 w #[.int .i64 Op, .int .i64 A, .int .i64 B, .int .i64 C, .int .i64 N, .int .i64 Exit, .int .i64 K.Kind, .int .i64 K.N] (insL ⟨0, 0, 0, 0, 0, 0, ⟨0, 0⟩⟩).toArray _ _ w1 hw1
  have x0 := rX.cell (j := 0) rfl
  have lx := rX.lt
  have HX1 := Lib.hid rX; have HZ1 := Lib.hid rZ; have HB1 := Lib.hid hb1; have HZS := Lib.hid hz1
  have HTS := Lib.hid hts; have HRR := Lib.hid hR; have HLN := Lib.hid hn; have HNT := Lib.hid hnt; have HXX := Lib.hid hx
  have HFR : Hid (∀ w2, Below w1.heap.size w1 w2 → Row w2 w.heap.size 43 #[.int .i64 Op, .int .i64 A, .int .i64 B, .int .i64 C, .int .i64 N, .int .i64 Exit, .int .i64 K.Kind, .int .i64 K.N] ∧ Row w2 (w.heap.size + 1) 43 (insL ⟨0, 0, 0, 0, 0, 0, ⟨0, 0⟩⟩).toArray ∧ Arr R w2 aT ts ∧ Below w.heap.size w w2) := fun w2 hb =>
    ⟨HX1.out.keep (hb.block _ HX1.out.lt), HZ1.out.keep (hb.block _ HZ1.out.lt), hts.keep fun b hb' => (hb.block b (Nat.lt_of_lt_of_le (hR b hb') hb1.size)).trans (hb1.block b (hR b hb')), hb1.trans (hb.mono hb1.size)⟩
  have HGT : Hid (∀ v : Int, 0 ≤ v → v < nT → ∃ k : Nat, v = k ∧ k < nT ∧ ts[k]? = some (forV ts v)) := fun v h0 h1 => by
    obtain ⟨k, rfl⟩ : ∃ k : Nat, v = k := ⟨v.toNat, by omega⟩
    have hk : k < ts.length := by omega
    exact ⟨k, rfl, by omega, by rw [forV_at (List.getElem?_eq_getElem hk)]; exact List.getElem?_eq_getElem hk⟩
  clear hts hR hn hnt hx rX rZ hb1 hz1 hasks htk hln hP
  rcases (show n = 0 ∨ n = 1 ∨ n = 2 ∨ n = 3 by omega) with rfl | rfl | rfl | rfl
  · skip
    have HN : Hid ((0 : Int) = (0 : Nat)) := rfl
    skip
    have HEND : Hid (∀ W, Below w1.heap.size w1 W → Row W w.heap.size 43 (insL (cutArgs (forV ts) 0 ⟨Op, A, B, C, N, Exit, K⟩)).toArray ∧ Row W (w.heap.size + 1) 43 (insL ⟨0, 0, 0, 0, 0, 0, ⟨0, 0⟩⟩).toArray ∧ Below w.heap.size w W) := fun W hb => by
      obtain ⟨q1, q2, q3, q4⟩ := HFR.out W hb
      exact ⟨q1.blk, q2, q4⟩
    go_enter Tryd.func40, Tryd.ntmps40
    go_upto_region 1 with fail
    rw [show (w.alloc (.cells #[.int .i64 Op, .int .i64 A, .int .i64 B, .int .i64 C, .int .i64 N, .int .i64 Exit, .int .i64 K.Kind, .int .i64 K.N] 43)).alloc (.cells #[.int .i64 0, .int .i64 0, .int .i64 0, .int .i64 0, .int .i64 0, .int .i64 0, .int .i64 0, .int .i64 0] 43) = w1 from hw1.symm]
    clear hw1
    go_wp2_with (first
      | (go_at_call 55; (with_reducible refine (HV.out _).mono ?_); rintro e w3 ⟨rfl, hb3⟩; have hq := HFR.out w3 hb3; have HEN := Lib.hid (HEND.out w3 hb3); clear hq hb3)
      | (with_reducible refine ldI rfl rfl rfl HEN.out.1 rfl ?_)
      | (with_reducible refine stI (q := cutArgs (forV ts) 0 ⟨Op, A, B, C, N, Exit, K⟩) (OLD := (insL ⟨0, 0, 0, 0, 0, 0, ⟨0, 0⟩⟩).toArray) rfl rfl rfl rfl HEN.out.2.1 rfl ?_))
    (try simp only [Exit.inBlock, Exit.then])
    refine bodyPost_ret (results_row_I rfl _ _ _ _ _ _ rfl (setRow_heap _ _ _ _ _ _ HEN.out.2.1) Tryd.underlying43 rfl (infoI rfl)) rfl ?_
    exact ⟨rfl, below_setRow HEN.out.2.2 (by omega) _⟩
  · skip
    have HN : Hid ((1 : Int) = (1 : Nat)) := rfl
    obtain ⟨hA0, hA1⟩ := HXX.out A (by simp)
    obtain ⟨kA, eA, lA, gA⟩ := HGT.out A hA0 hA1
    subst eA
    have mA : (kA : Int) < (nT : Int) := by omega
    clear hA0 hA1
    have HEND : Hid (∀ W, Below w1.heap.size w1 W → Row (W.setCell ⟨w.heap.size, 1, none⟩ (.int .i64 (forV ts kA))) w.heap.size 43 (insL (cutArgs (forV ts) 1 ⟨Op, (kA : Int), B, C, N, Exit, K⟩)).toArray ∧ Row (W.setCell ⟨w.heap.size, 1, none⟩ (.int .i64 (forV ts kA))) (w.heap.size + 1) 43 (insL ⟨0, 0, 0, 0, 0, 0, ⟨0, 0⟩⟩).toArray ∧ Below w.heap.size w (W.setCell ⟨w.heap.size, 1, none⟩ (.int .i64 (forV ts kA)))) := fun W hb => by
      obtain ⟨q1, q2, q3, q4⟩ := HFR.out W hb
      exact ⟨(q1.blk.set 1 (.int .i64 (forV ts kA))), (q2.keep (blk_setCell_other _ _ _ (show w.heap.size + 1 ≠ w.heap.size by omega))), (below_set q4 (Nat.le_refl _))⟩
    go_enter Tryd.func40, Tryd.ntmps40
    go_upto_region 1 with fail
    rw [show (w.alloc (.cells #[.int .i64 Op, .int .i64 (kA : Int), .int .i64 B, .int .i64 C, .int .i64 N, .int .i64 Exit, .int .i64 K.Kind, .int .i64 K.N] 43)).alloc (.cells #[.int .i64 0, .int .i64 0, .int .i64 0, .int .i64 0, .int .i64 0, .int .i64 0, .int .i64 0, .int .i64 0] 43) = w1 from hw1.symm]
    clear hw1
    go_wp2_with (first
      | (go_at_call 55; (with_reducible refine (HV.out _).mono ?_); rintro e w3 ⟨rfl, hb3⟩; have hq := HFR.out w3 hb3; have HEN := Lib.hid (HEND.out w3 hb3); have c1 := hq.1.cell (j := 1) rfl; have f1 := hq.1.blk.frozen 1; have l3 := hq.1.lt; obtain ⟨b, off, haT, hRb, dA, -⟩ := arr_int hq.2.2.1 gA; subst haT; have hbw := HRR.out b hRb; clear hq hb3 hRb)
      | (with_reducible refine ldI rfl rfl rfl HEN.out.1 rfl ?_)
      | (with_reducible refine stI (q := cutArgs (forV ts) 1 ⟨Op, (kA : Int), B, C, N, Exit, K⟩) (OLD := (insL ⟨0, 0, 0, 0, 0, 0, ⟨0, 0⟩⟩).toArray) rfl rfl rfl rfl HEN.out.2.1 rfl ?_))
    (try simp only [Exit.inBlock, Exit.then])
    refine bodyPost_ret (results_row_I rfl _ _ _ _ _ _ rfl (setRow_heap _ _ _ _ _ _ HEN.out.2.1) Tryd.underlying43 rfl (infoI rfl)) rfl ?_
    exact ⟨rfl, below_setRow HEN.out.2.2 (by omega) _⟩
  · skip
    have HN : Hid ((2 : Int) = (2 : Nat)) := rfl
    obtain ⟨hA0, hA1⟩ := HXX.out A (by simp)
    obtain ⟨kA, eA, lA, gA⟩ := HGT.out A hA0 hA1
    subst eA
    have mA : (kA : Int) < (nT : Int) := by omega
    obtain ⟨hB0, hB1⟩ := HXX.out B (by simp)
    obtain ⟨kB, eB, lB, gB⟩ := HGT.out B hB0 hB1
    subst eB
    have mB : (kB : Int) < (nT : Int) := by omega
    clear hA0 hA1 hB0 hB1
    have HEND : Hid (∀ W, Below w1.heap.size w1 W → Row ((W.setCell ⟨w.heap.size, 1, none⟩ (.int .i64 (forV ts kA))).setCell ⟨w.heap.size, 2, none⟩ (.int .i64 (forV ts kB))) w.heap.size 43 (insL (cutArgs (forV ts) 2 ⟨Op, (kA : Int), (kB : Int), C, N, Exit, K⟩)).toArray ∧ Row ((W.setCell ⟨w.heap.size, 1, none⟩ (.int .i64 (forV ts kA))).setCell ⟨w.heap.size, 2, none⟩ (.int .i64 (forV ts kB))) (w.heap.size + 1) 43 (insL ⟨0, 0, 0, 0, 0, 0, ⟨0, 0⟩⟩).toArray ∧ Below w.heap.size w ((W.setCell ⟨w.heap.size, 1, none⟩ (.int .i64 (forV ts kA))).setCell ⟨w.heap.size, 2, none⟩ (.int .i64 (forV ts kB)))) := fun W hb => by
      obtain ⟨q1, q2, q3, q4⟩ := HFR.out W hb
      exact ⟨((q1.blk.set 1 (.int .i64 (forV ts kA))).set 2 (.int .i64 (forV ts kB))), ((q2.keep (blk_setCell_other _ _ _ (show w.heap.size + 1 ≠ w.heap.size by omega))).keep (blk_setCell_other _ _ _ (show w.heap.size + 1 ≠ w.heap.size by omega))), (below_set (below_set q4 (Nat.le_refl _)) (Nat.le_refl _))⟩
    go_enter Tryd.func40, Tryd.ntmps40
    go_upto_region 1 with fail
    rw [show (w.alloc (.cells #[.int .i64 Op, .int .i64 (kA : Int), .int .i64 (kB : Int), .int .i64 C, .int .i64 N, .int .i64 Exit, .int .i64 K.Kind, .int .i64 K.N] 43)).alloc (.cells #[.int .i64 0, .int .i64 0, .int .i64 0, .int .i64 0, .int .i64 0, .int .i64 0, .int .i64 0, .int .i64 0] 43) = w1 from hw1.symm]
    clear hw1
    go_wp2_with (first
      | (go_at_call 55; (with_reducible refine (HV.out _).mono ?_); rintro e w3 ⟨rfl, hb3⟩; have hq := HFR.out w3 hb3; have HEN := Lib.hid (HEND.out w3 hb3); have c1 := hq.1.cell (j := 1) rfl; have c2 := hq.1.cell (j := 2) rfl; have f1 := hq.1.blk.frozen 1; have f2 := hq.1.blk.frozen 2; have l3 := hq.1.lt; obtain ⟨b, off, haT, hRb, dA, -⟩ := arr_int hq.2.2.1 gA; subst haT; have dB := arr_int2 hq.2.2.1 gB; have hbw := HRR.out b hRb; clear hq hb3 hRb)
      | (with_reducible refine ldI rfl rfl rfl HEN.out.1 rfl ?_)
      | (with_reducible refine stI (q := cutArgs (forV ts) 2 ⟨Op, (kA : Int), (kB : Int), C, N, Exit, K⟩) (OLD := (insL ⟨0, 0, 0, 0, 0, 0, ⟨0, 0⟩⟩).toArray) rfl rfl rfl rfl HEN.out.2.1 rfl ?_))
    (try simp only [Exit.inBlock, Exit.then])
    refine bodyPost_ret (results_row_I rfl _ _ _ _ _ _ rfl (setRow_heap _ _ _ _ _ _ HEN.out.2.1) Tryd.underlying43 rfl (infoI rfl)) rfl ?_
    exact ⟨rfl, below_setRow HEN.out.2.2 (by omega) _⟩
  · skip
    have HN : Hid ((3 : Int) = (3 : Nat)) := rfl
    obtain ⟨hA0, hA1⟩ := HXX.out A (by simp)
    obtain ⟨kA, eA, lA, gA⟩ := HGT.out A hA0 hA1
    subst eA
    have mA : (kA : Int) < (nT : Int) := by omega
    obtain ⟨hB0, hB1⟩ := HXX.out B (by simp)
    obtain ⟨kB, eB, lB, gB⟩ := HGT.out B hB0 hB1
    subst eB
    have mB : (kB : Int) < (nT : Int) := by omega
    obtain ⟨hC0, hC1⟩ := HXX.out C (by simp)
    obtain ⟨kC, eC, lC, gC⟩ := HGT.out C hC0 hC1
    subst eC
    have mC : (kC : Int) < (nT : Int) := by omega
    clear hA0 hA1 hB0 hB1 hC0 hC1
    have HEND : Hid (∀ W, Below w1.heap.size w1 W → Row (((W.setCell ⟨w.heap.size, 1, none⟩ (.int .i64 (forV ts kA))).setCell ⟨w.heap.size, 2, none⟩ (.int .i64 (forV ts kB))).setCell ⟨w.heap.size, 3, none⟩ (.int .i64 (forV ts kC))) w.heap.size 43 (insL (cutArgs (forV ts) 3 ⟨Op, (kA : Int), (kB : Int), (kC : Int), N, Exit, K⟩)).toArray ∧ Row (((W.setCell ⟨w.heap.size, 1, none⟩ (.int .i64 (forV ts kA))).setCell ⟨w.heap.size, 2, none⟩ (.int .i64 (forV ts kB))).setCell ⟨w.heap.size, 3, none⟩ (.int .i64 (forV ts kC))) (w.heap.size + 1) 43 (insL ⟨0, 0, 0, 0, 0, 0, ⟨0, 0⟩⟩).toArray ∧ Below w.heap.size w (((W.setCell ⟨w.heap.size, 1, none⟩ (.int .i64 (forV ts kA))).setCell ⟨w.heap.size, 2, none⟩ (.int .i64 (forV ts kB))).setCell ⟨w.heap.size, 3, none⟩ (.int .i64 (forV ts kC)))) := fun W hb => by
      obtain ⟨q1, q2, q3, q4⟩ := HFR.out W hb
      exact ⟨(((q1.blk.set 1 (.int .i64 (forV ts kA))).set 2 (.int .i64 (forV ts kB))).set 3 (.int .i64 (forV ts kC))), (((q2.keep (blk_setCell_other _ _ _ (show w.heap.size + 1 ≠ w.heap.size by omega))).keep (blk_setCell_other _ _ _ (show w.heap.size + 1 ≠ w.heap.size by omega))).keep (blk_setCell_other _ _ _ (show w.heap.size + 1 ≠ w.heap.size by omega))), (below_set (below_set (below_set q4 (Nat.le_refl _)) (Nat.le_refl _)) (Nat.le_refl _))⟩
    go_enter Tryd.func40, Tryd.ntmps40
    go_upto_region 1 with fail
    rw [show (w.alloc (.cells #[.int .i64 Op, .int .i64 (kA : Int), .int .i64 (kB : Int), .int .i64 (kC : Int), .int .i64 N, .int .i64 Exit, .int .i64 K.Kind, .int .i64 K.N] 43)).alloc (.cells #[.int .i64 0, .int .i64 0, .int .i64 0, .int .i64 0, .int .i64 0, .int .i64 0, .int .i64 0, .int .i64 0] 43) = w1 from hw1.symm]
    clear hw1
    go_wp2_with (first
      | (go_at_call 55; (with_reducible refine (HV.out _).mono ?_); rintro e w3 ⟨rfl, hb3⟩; have hq := HFR.out w3 hb3; have HEN := Lib.hid (HEND.out w3 hb3); have c1 := hq.1.cell (j := 1) rfl; have c2 := hq.1.cell (j := 2) rfl; have c3 := hq.1.cell (j := 3) rfl; have f1 := hq.1.blk.frozen 1; have f2 := hq.1.blk.frozen 2; have f3 := hq.1.blk.frozen 3; have l3 := hq.1.lt; obtain ⟨b, off, haT, hRb, dA, -⟩ := arr_int hq.2.2.1 gA; subst haT; have dB := arr_int2 hq.2.2.1 gB; have dC := arr_int2 hq.2.2.1 gC; have hbw := HRR.out b hRb; clear hq hb3 hRb)
      | (with_reducible refine ldI rfl rfl rfl HEN.out.1 rfl ?_)
      | (with_reducible refine stI (q := cutArgs (forV ts) 3 ⟨Op, (kA : Int), (kB : Int), (kC : Int), N, Exit, K⟩) (OLD := (insL ⟨0, 0, 0, 0, 0, 0, ⟨0, 0⟩⟩).toArray) rfl rfl rfl rfl HEN.out.2.1 rfl ?_))
    (try simp only [Exit.inBlock, Exit.then])
    refine bodyPost_ret (results_row_I rfl _ _ _ _ _ _ rfl (setRow_heap _ _ _ _ _ _ HEN.out.2.1) Tryd.underlying43 rfl (infoI rfl)) rfl ?_
    exact ⟨rfl, below_setRow HEN.out.2.2 (by omega) _⟩
end Go.Proofs.YtekofpigmggbbaaDoor.cut
