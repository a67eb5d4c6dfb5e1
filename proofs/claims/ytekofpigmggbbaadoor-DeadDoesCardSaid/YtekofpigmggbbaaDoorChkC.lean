/- The document's: RightExit: walked. -/
import Derived.Test.YtekofpigmggbbaaDoorChkB
import Derived.Deep.DeepCutAuto
set_option linter.unusedVariables false
set_option linter.unusedSimpArgs false
namespace Go.Proofs.YtekofpigmggbbaaDoor.chk
open Go.Bk Go.RowKit Go.Proofs.YtekofpigmggbbaaDoor.ir
theorem rep_size {S : Nat → Prop} {w : World} {X : Array Value} {α : Type} [Rep α] {x : α} (h : Rep.cells S w X.toList x) : X.size = Rep.sz α := by
 have := Rep.len h
 simpa using this
/-- An exit as it is handed over. -/
structure XIn (S : Nat → Prop) (w : World) (X : Array Value) (x : Api.TExit) (a2 a3 : Option Addr) (nS c2 nM c3 : Nat) : Prop where
 size : X.size = 4
 c0 : X.toList[0]? = some (.int .i64 x.At)
 c1 : X.toList[1]? = some (.int .i64 x.Steps)
 c2 : X.toList[2]? = some (.slice a2 nS c2)
 c3 : X.toList[3]? = some (.slice a3 nM c3)
 sets : Arr S w a2 x.Sets
 makes : Arr S w a3 x.Makes
 lenS : x.Sets.length = nS
 lenM : x.Makes.length = nM
 fewS : nS ≤ 9223372036854775807
 fewM : nM ≤ 9223372036854775807
theorem xin_of {S : Nat → Prop} {w : World} {X : Array Value} {x : Api.TExit} (h : Rep.cells S w X.toList x) : ∃ a2 a3 nS c2 nM c3, XIn S w X x a2 a3 nS c2 nM c3 := by
 obtain ⟨a2, c2, a3, c3, e, -, -, h2, h3⟩ := api_TExit_cells_eq h
 refine ⟨a2, a3, _, c2, _, c3, ?_, by rw [e]; rfl, by rw [e]; rfl, by rw [e]; rfl, by rw [e]; rfl, h2.2.2, h3.2.2, rfl, rfl, ?_, ?_⟩
 · have := congrArg List.length e
   simpa using this
 · have := h2.2.2.small
   unfold maxLen at this
   omega
 · have := h3.2.2.small
   unfold maxLen at this
   omega
/-- A program as it is handed over. -/
structure PIn (S : Nat → Prop) (w : World) (X : Array Value) (p : Api.Prog) (a0 : Option Addr) (nF c0 : Nat) : Prop where
 size : X.size = 3
 c0 : X.toList[0]? = some (.slice a0 nF c0)
 fns : Arr S w a0 p.Fns
 len : p.Fns.length = nF
theorem pin_of {S : Nat → Prop} {w : World} {X : Array Value} {p : Api.Prog} (h : Rep.cells S w X.toList p) : ∃ a0 nF c0, PIn S w X p a0 nF c0 := by
 obtain ⟨a0, c0, a1, c1, a2, c2, e, h0, -⟩ := api_Prog_cells_eq h
 refine ⟨a0, _, c0, ?_, by rw [e]; rfl, h0.2.2, rfl⟩
 have := congrArg List.length e
 simpa using this
theorem rows4 (w : World) (o1 o2 o3 o4 : Array Value) (t1 t2 t3 t4 : TypeId) (W : World) (hW : W = (((w.alloc (.cells o1 t1)).alloc (.cells o2 t2)).alloc (.cells o3 t3)).alloc (.cells o4 t4)) :
 Row W w.heap.size t1 o1 ∧ Row W (w.heap.size + 1) t2 o2 ∧ Row W (w.heap.size + 1 + 1) t3 o3 ∧ Row W (w.heap.size + 1 + 1 + 1) t4 o4 ∧ Below w.heap.size w W := by
 subst hW
 have z1 : (w.alloc (.cells o1 t1)).heap.size = w.heap.size + 1 := by simp
 have z2 : ((w.alloc (.cells o1 t1)).alloc (.cells o2 t2)).heap.size = w.heap.size + 1 + 1 := by simp
 have z3 : (((w.alloc (.cells o1 t1)).alloc (.cells o2 t2)).alloc (.cells o3 t3)).heap.size = w.heap.size + 1 + 1 + 1 := by simp
 have b1 := row_new w o1 t1
 have b2 := row_new (w.alloc (.cells o1 t1)) o2 t2
 have b3 := row_new ((w.alloc (.cells o1 t1)).alloc (.cells o2 t2)) o3 t3
 have b4 := row_new (((w.alloc (.cells o1 t1)).alloc (.cells o2 t2)).alloc (.cells o3 t3)) o4 t4
 rw [z1] at b2
 rw [z2] at b3
 rw [z3] at b4
 have hb : ∀ (W : World) (o : Obj), w.heap.size ≤ W.heap.size → Below w.heap.size W (W.alloc o) := fun W o h => (Below.refl _ _).alloc h o
 refine ⟨?_, ?_, ?_, b4, ?_⟩
 · exact ((b1.keep (Below.heap_alloc _ _ _ (by omega))).keep (Below.heap_alloc _ _ _ (by omega))).keep (Below.heap_alloc _ _ _ (by omega))
 · exact (b2.keep (Below.heap_alloc _ _ _ (by omega))).keep (Below.heap_alloc _ _ _ (by omega))
 · exact b3.keep (Below.heap_alloc _ _ _ (by omega))
 · exact ((((Below.refl _ _).alloc (Nat.le_refl _) _).alloc (by simp) _).alloc (by simp; omega) _).alloc (by simp; omega) _
theorem tset_at {S : Nat → Prop} {w : World} {b o : Nat} {xs : List Api.TSet} (h : Arr S w (some ⟨b, o, none⟩) xs) {k : Nat} {y : Api.TSet} (hk : xs[k]? = some y) : w.cell? ⟨b, o + k * 2, none⟩ = some (.int .i64 y.Reg) := by
 obtain ⟨b2, o2, he, -, h0, -⟩ := api_TSet_elem h hk
 injection he with he
 injection he with e1 e2
 subst e1 e2
 exact h0
theorem tmake_at {S : Nat → Prop} {w : World} {b o : Nat} {xs : List Api.TMake} (h : Arr S w (some ⟨b, o, none⟩) xs) {k : Nat} {y : Api.TMake} (hk : xs[k]? = some y) : w.cell? ⟨b, o + k * 4, none⟩ = some (.int .i64 y.Cell) := by
 obtain ⟨b2, o2, _, _, he, -, h0, -⟩ := api_TMake_elem h hk
 injection he with he
 injection he with e1 e2
 subst e1 e2
 exact h0
/-- What the first test says of a making. -/
def mk1 (ins : List Api.TIns) (at' : Int) (l : List Api.TMake) (k : Nat) (m : Api.TMake) : Bool := valAt ins m.Cell at' && (decide (opAt ins m.Cell = 18) && (decide (k = 0) || decide (prevC l k < m.Cell)))
def mk2 (m : Api.TMake) : Bool := (decide (1 ≤ m.Kind) && decide (m.Kind ≤ 3)) && (decide (0 ≤ m.Num) && ((decide (m.Num = 0) || decide (m.Kind = 1)) && decide (m.Vals.length ≤ 100)))
theorem make_split {ins : List Api.TIns} {at' : Int} {l : List Api.TMake} {k : Nat} {m : Api.TMake} (hm : l[k]? = some m) (q : Bool) :
 (q && allTo (makeC ins at' l) (k + 1)) = ((((q && allTo (makeC ins at' l) k) && mk1 ins at' l k m) && mk2 m) && m.Vals.all fun v => valAt ins v at') := by
 have e : makeC ins at' l k = ((mk1 ins at' l k m && mk2 m) && m.Vals.all fun v => valAt ins v at') := by
  unfold makeC
  rw [hm]
  simp only []
  unfold makeOk mk1 mk2
  by_cases hk : k = 0
  · subst hk
    have hp : prevC l 0 = -1 := by unfold prevC; simp
    rw [hp]
    cases hv : valAt ins m.Cell at' with
    | false => simp
    | true =>
      have : 0 ≤ m.Cell := by
       by_cases h : 0 ≤ m.Cell ∧ m.Cell < at' ∧ m.Cell < ins.length
       · exact h.1
       · rw [valAt_not h] at hv; cases hv
      rw [decide_eq_true (show (-1 : Int) < m.Cell by omega)]
      simp [Bool.and_assoc]
  · rw [decide_eq_false hk]
    cases decide (prevC l k < m.Cell) <;> simp [Bool.and_assoc]
 show (q && (allTo _ k && makeC ins at' l k)) = _
 rw [e]
 simp only [Bool.and_assoc]
theorem four (a b c d : Bool) : a = false ∨ (a = true ∧ b = false) ∨ (a = true ∧ b = true ∧ c = false) ∨ (a = true ∧ b = true ∧ c = true ∧ d = false) ∨ (a = true ∧ b = true ∧ c = true ∧ d = true) := by
 cases a <;> cases b <;> cases c <;> cases d <;> simp
theorem prevR_lt {regs : Int} {ins : List Api.TIns} {at' : Int} {l : List Api.TSet} : ∀ {k : Nat}, allTo (setC regs ins at' l) k = true → k ≤ l.length → -1 ≤ prevR l k
 | 0, _, _ => by unfold prevR; simp
 | k + 1, h, hk => by
   have h1 := allTo_at h (Nat.lt_succ_self k)
   have h2 := prevR_lt (k := k) (allTo_le h (by omega)) (by omega)
   have hs : l[k]? = some (l[k]'(by omega)) := List.getElem?_eq_getElem (by omega)
   have e1 : prevR l (k + 1) = (l[k]'(by omega)).Reg := by
    unfold prevR
    rw [if_neg (by omega)]
    simp only [Nat.add_sub_cancel, hs]
   unfold setC at h1
   simp only [hs, Bool.and_eq_true, decide_eq_true_eq] at h1
   rw [e1]
   omega
set_option maxRecDepth 100000 in
set_option maxHeartbeats 2000000 in
theorem rexit_any {S : Nat → Prop} {w : World} {P T X : Array Value} {p : Api.Prog} {t : Api.TTrace} {x : Api.TExit} {f : Api.Fn} {fk : Nat} (hp : Rep.cells S w P.toList p) (ht : Rep.cells S w T.toList t) (hx : Rep.cells S w X.toList x) (hS : ∀ b, S b → b < w.heap.size)
 (hfk : t.Fn = fk) (hf : p.Fns[fk]? = some f) (at' : Int) :
 Calls Tryd.prog 75 #[.agg P, .agg T, .agg X, .int .i64 at'] w fun e w' => e = .returned (.bool (exitOk f.Regs f.Code.length t.Ins x at')) ∧ Below w.heap.size w w' := by
 obtain ⟨a2, a3, nS, c2, nM, c3, hX⟩ := xin_of hx
 obtain ⟨a0, nF, c0, hP⟩ := pin_of hp
 obtain ⟨aI, nI, cI, hT⟩ := tin_of ht
 have hT0 : T.toList[0]? = some (.int .i64 fk) := by
  obtain ⟨_, _, _, _, _, _, _, _, _, _, _, _, e, -⟩ := api_TTrace_cells_eq ht
  rw [e, ← hfk]; rfl
 have hlF : fk < nF := by rw [← hP.len]; exact (List.getElem?_eq_some_iff.1 hf).1
 obtain ⟨bf, of, b3, d3, b4, d4, rfl, hSf, f0, f1, f2, f3, f4, -, -, -, g4⟩ := api_Fn_elem hP.fns hf
 obtain ⟨nO, hnO⟩ : ∃ n, n = f.Code.length := ⟨_, rfl⟩
 obtain ⟨nA, hnA⟩ : ∃ n, n = f.Caught.length := ⟨_, rfl⟩
 have hnO9 : nO ≤ 9223372036854775807 := by have := g4.2.2.small; unfold maxLen at this; omega
 rw [← hnO] at f4 ⊢
 rw [← hnA] at f3
 have hbf := hS bf hSf
 obtain ⟨w4, hw4⟩ : ∃ w4, w4 = (((w.alloc (.cells P 26)).alloc (.cells T 34)).alloc (.cells X 32)).alloc (.cells #[.int .i64 f.Params, .int .i64 f.Regs, .bool f.Gen, .slice b3 nA d3, .slice b4 nO d4] 123) := ⟨_, rfl⟩
 obtain ⟨r1, r2, r3, r4, hb4⟩ := rows4 w P T X #[.int .i64 f.Params, .int .i64 f.Regs, .bool f.Gen, .slice b3 nA d3, .slice b4 nO d4] 26 34 32 123 w4 hw4
 have HCE : Hid (∀ W, Below w4.heap.size w4 W → Row W (w.heap.size + 1) 34 T ∧ Row W (w.heap.size + 1 + 1) 32 X ∧ Row W (w.heap.size + 1 + 1 + 1) 123 #[.int .i64 f.Params, .int .i64 f.Regs, .bool f.Gen, .slice b3 nA d3, .slice b4 nO d4] ∧ Rep.cells S W T.toList t ∧ XIn S W X x a2 a3 nS c2 nM c3 ∧ (∀ b, S b → b < W.heap.size) ∧ Below w.heap.size w W) := fun W hb => by
  have hbw : Below w.heap.size w W := hb4.trans (hb.mono hb4.size)
  have hk : ∀ b, S b → W.heap[b]? = w.heap[b]? := fun b hb' => hbw.block b (hS b hb')
  exact ⟨r2.keep (hb.block _ r2.lt), r3.keep (hb.block _ r3.lt), r4.keep (hb.block _ r4.lt), Rep.keep hk ht, ⟨hX.size, hX.c0, hX.c1, hX.c2, hX.c3, hX.sets.keep hk, hX.makes.keep hk, hX.lenS, hX.lenM, hX.fewS, hX.fewM⟩, fun b hb' => Nat.lt_of_lt_of_le (hS b hb') hbw.size, hbw⟩
 have HE : Hid (exitOk f.Regs nO t.Ins x at' = (placeOk nO x && (allTo (setC f.Regs t.Ins at' x.Sets) x.Sets.length && allTo (makeC t.Ins at' x.Makes) x.Makes.length))) := rfl
 have hsT := hT.size
 have hXs := hX.fewS; have hXm := hX.fewM
 obtain ⟨w3, hw3⟩ : ∃ w3, w3 = ((w.alloc (.cells P 26)).alloc (.cells T 34)).alloc (.cells X 32) := ⟨_, rfl⟩
 rw [← hw3] at hw4
 have hb3 : Below w.heap.size w w3 := by rw [hw3]; exact (((Below.refl _ _).alloc (Nat.le_refl _) _).alloc (by simp) _).alloc (by simp; omega) _
 have h34 : Below w3.heap.size w3 w4 := by rw [hw4]; exact cod.below_al2 _
 have hz3 : w3.heap.size = w.heap.size + 1 + 1 + 1 := by rw [hw3]; simp
 have s1 : Row w3 w.heap.size 26 P := by
  have : w4.heap[w.heap.size]? = w3.heap[w.heap.size]? := h34.block _ (by omega)
  unfold Row at r1 ⊢; rw [← this]; exact r1
 have s2 : Row w3 (w.heap.size + 1) 34 T := by
  have : w4.heap[w.heap.size + 1]? = w3.heap[w.heap.size + 1]? := h34.block _ (by omega)
  unfold Row at r2 ⊢; rw [← this]; exact r2
 have q0 := s1.cell hP.c0
 have q1 := s2.cell hT0
 have hk3 := hb3.block bf hbf
 have y0 := (World.cell?_of_block (a := ⟨bf, of + fk * 5, none⟩) hk3).trans f0
 have y1 := (World.cell?_of_block (a := ⟨bf, of + fk * 5 + 1, none⟩) hk3).trans f1
 have y2 := (World.cell?_of_block (a := ⟨bf, of + fk * 5 + 2, none⟩) hk3).trans f2
 have y3 := (World.cell?_of_block (a := ⟨bf, of + fk * 5 + 3, none⟩) hk3).trans f3
 have y4 := (World.cell?_of_block (a := ⟨bf, of + fk * 5 + 4, none⟩) hk3).trans f4
 have hbf3 : bf < w3.heap.size := by omega
 have hlF' : (fk : Int) < (nF : Int) := by omega
 have HW4 := Lib.hid hw4
 have HZ3 := Lib.hid hz3
 have HH4 : Hid (Below w4.heap.size w4 w4) := Below.refl _ _
 clear hp ht hx hS hfk hf hX hT hT0 hlF hP hSf f0 f1 f2 f3 f4 g4 hnO hnA hbf hw4 r1 r2 r3 r4 hb4 hb3 h34 s1 s2 hk3 hz3
 go_enter Tryd.func75, Tryd.ntmps75
 go_upto_region 1 with fail
 rw [← hw3]
 clear hw3
 go_upto_region 2 with fail
 rw [HZ3.out, ← HW4.out]
 clear HZ3 HW4 q0 q1 y0 y1 y2 y3 y4 hbf3 hlF'
 generalize w.heap.size + 1 + 1 + 1 = gF at HCE ⊢
 generalize w.heap.size + 1 + 1 = gX at HCE ⊢
 generalize w.heap.size + 1 = gT at HCE ⊢
 obtain ⟨k1, k2, k3, k4, k5, k6, k7⟩ := HCE.out w4 HH4.out
 have x0 := k2.cell k5.c0; have x1 := k2.cell k5.c1; have x2 := k2.cell k5.c2
 have z4 := k3.cell (j := 4) rfl
 have lX := k2.lt; have lF := k3.lt
 clear k1 k2 k3 k4 k5 k6 k7
 go_cut [10] (fun s10 wz => s10 = .bool (placeOk nO x) ∧ w4 = wz)
 case first =>
  have HPO : Hid (placeOk nO x = (decide (0 ≤ x.At) && (decide (x.At < nO) && (decide (0 ≤ x.Steps) && decide (x.Steps ≤ 200))))) := rfl
  rcases four (decide (0 ≤ x.At)) (decide (x.At < (nO : Int))) (decide (0 ≤ x.Steps)) (decide (x.Steps ≤ 200)) with e1 | ⟨e1, e2⟩ | ⟨e1, e2, e3⟩ | ⟨e1, e2, e3, e4⟩ | ⟨e1, e2, e3, e4⟩
  · rw [e1] at HPO
    go_wp2_with fail
    go_meet
    exact ⟨by rw [HPO.out]; rfl, rfl⟩
  · rw [e1, e2] at HPO
    go_wp2_with fail
    go_meet
    exact ⟨by rw [HPO.out]; rfl, rfl⟩
  · rw [e1, e2, e3] at HPO
    go_wp2_with fail
    go_meet
    exact ⟨by rw [HPO.out]; rfl, rfl⟩
  all_goals
   rw [e1, e2, e3, e4] at HPO
   go_wp2_with fail
   go_meet
   exact ⟨by rw [HPO.out]; rfl, rfl⟩
 case rest =>
  obtain ⟨rfl, rfl⟩ := hcut
  obtain ⟨pk, hpk⟩ : ∃ b, b = placeOk nO x := ⟨_, rfl⟩
  rw [← hpk] at HE ⊢
  have HPK := Lib.hid hpk
  clear hpk x0 x1 z4 lF
  go_wp2_with fail
  go_loopw [10, 47] (fun s10 i wr => ∃ k : Nat, k ≤ nS ∧ i = .int .i64 k ∧ s10 = .bool (pk && allTo (setC f.Regs t.Ins at' x.Sets) k) ∧ Below w4.heap.size w4 wr) (fun _ i _ => nS - (intOf i).toNat)
  case atStart => exact ⟨0, Nat.zero_le _, rfl, by simp [allTo], HH4.out⟩
  case round =>
   obtain ⟨k, hk, rfl, rfl, hbr⟩ := hrel
   have HBR := Lib.hid hbr
   obtain ⟨k1, k2, k3, k4, k5, k6, k7⟩ := HCE.out wr hbr
   have hsz4 := hbr.size
   have lX2 : gX < wr.heap.size := by omega
   by_cases hlt : k < nS
   · obtain ⟨y, hy⟩ : ∃ y, x.Sets[k]? = some y := ⟨_, List.getElem?_eq_getElem (by rw [k5.lenS]; exact hlt)⟩
     obtain ⟨bs, os, rfl, hSb, y0, y1, i0, i1⟩ := api_TSet_elem k5.sets hy
     have hbs := k6 bs hSb
     obtain ⟨w5, hw5⟩ : ∃ w5, w5 = wr.alloc (.cells #[.int .i64 y.Reg, .int .i64 y.Val] 98) := ⟨_, rfl⟩
     have hb5 : Below wr.heap.size wr w5 := by rw [hw5]; exact cod.below_al2 _
     have HB5 : Hid (Below w4.heap.size w4 w5) := hbr.trans (hb5.mono hbr.size)
     have hrow := row_new wr #[.int .i64 y.Reg, .int .i64 y.Val] 98
     rw [← hw5] at hrow
     obtain ⟨m1, m2, m3, m4, m5, m6, m7⟩ := HCE.out w5 HB5.out
     have z0 := hrow.cell (j := 0) rfl; have z1 := hrow.cell (j := 1) rfl
     have x2' := m2.cell m5.c2
     have f1' := m3.cell (j := 1) rfl
     have lS := hrow.lt; have lX5 := m2.lt; have lF5 := m3.lt
     have HRT : Hid (∀ W, (∃ d : Drift w5, W = d.val) → Row W gT 34 T) := fun W ⟨d, hd⟩ => by rw [hd]; exact m1.keep (d.below.block _ m1.lt)
     obtain ⟨vb, hvb⟩ : ∃ b, b = valAt t.Ins y.Val at' := ⟨_, rfl⟩
     have HVL : Hid (∀ d : Drift w5, Calls Tryd.prog 116 #[.agg T, .int .i64 y.Val, .int .i64 at'] d.val fun e w' => e = .returned (.bool vb) ∧ Below d.val.heap.size d.val w') := fun d => by
      rw [hvb]
      exact value_any (Rep.keep (fun b hb => d.below.block b (m6 b hb)) m4) (fun b hb => Nat.lt_of_lt_of_le (m6 b hb) d.below.size) _ _
     obtain ⟨b, hb⟩ : ∃ b, b = (pk && allTo (setC f.Regs t.Ins at' x.Sets) k) := ⟨_, rfl⟩
     have HST : Hid ((pk && allTo (setC f.Regs t.Ins at' x.Sets) (k + 1)) = (b && (decide (prevR x.Sets k < y.Reg) && (decide (y.Reg < f.Regs) && vb)))) := by
      show _ = _
      rw [hb, hvb]
      show (pk && (allTo _ k && setC f.Regs t.Ins at' x.Sets k)) = _
      rw [← Bool.and_assoc]
      unfold setC
      rw [hy]
     rw [← hb]
     have HKB : Hid (b = true → -1 ≤ prevR x.Sets k) := fun h => by
      rw [hb] at h
      simp only [Bool.and_eq_true] at h
      exact prevR_lt h.2 (by rw [k5.lenS]; omega)
     have HM5 := Lib.hid m5
     clear hb hvb m1 m2 m3 m4 m5 m6 m7 k1 k2 k3 k4 k5 k6 k7 hbr hrow hb5
     go_upto_region 6 with fail
     rw [← hw5]
     clear hw5 y0 y1
     as_aux_lemma =>
      cases b with
      | false =>
        have HNEW : Hid ((pk && allTo (setC f.Regs t.Ins at' x.Sets) (k + 1)) = false) := by show _ = _; rw [HST.out]; rfl
        go_wp2_with fail
        first | (refine wp_region_drift_lit (by kernel_rfl) (by kernel_rfl) (fun hdr => ?_); (repeat (first | go_big_quiet_skip | (go_big_quiet_want; (first | ((with_reducible refine qldT rfl rfl HRT.out hsT ?_); simp only [Act.put, List.setIfInBounds_toArray, List.set_cons_succ, List.set_cons_zero]) | go_big_quiet_op); (first | go_big_quiet_on | go_big_quiet_call ((go_at_call 116; with_reducible exact drift_of (HVL.out _))))))); refine wpQuiet_nil ?_; intro wq hw'; obtain ⟨⟨wd, hbd⟩, hw''⟩ := hw'; dsimp only at hw''; subst wq; clear hdr)
        go_wp2_with fail
        go_roundw
        case rel => exact ⟨k + 1, by omega, by go_num, by rw [HNEW.out], HB5.out.trans (hbd.mono HB5.out.size)⟩
        case measure => simp [intOf]; omega
      | true =>
        have HP := HKB.out rfl
        by_cases r0 : 0 ≤ y.Reg
        · have d1 : decide (0 ≤ y.Reg) = true := decide_eq_true r0
          by_cases r1 : y.Reg < f.Regs
          · have d2 : decide (y.Reg < f.Regs) = true := decide_eq_true r1
            cases vb with
            | false =>
              have HNEW : Hid ((pk && allTo (setC f.Regs t.Ins at' x.Sets) (k + 1)) = false) := by show _ = _; rw [HST.out]; simp
              clear HP
              go_wp2_with fail
              first | (refine wp_region_drift_lit (by kernel_rfl) (by kernel_rfl) (fun hdr => ?_); (repeat (first | go_big_quiet_skip | (go_big_quiet_want; (first | ((with_reducible refine qldT rfl rfl HRT.out hsT ?_); simp only [Act.put, List.setIfInBounds_toArray, List.set_cons_succ, List.set_cons_zero]) | go_big_quiet_op); (first | go_big_quiet_on | go_big_quiet_call ((go_at_call 116; with_reducible exact drift_of (HVL.out _))))))); refine wpQuiet_nil ?_; intro wq hw'; obtain ⟨⟨wd, hbd⟩, hw''⟩ := hw'; dsimp only at hw''; subst wq; clear hdr)
              go_wp2_with fail
              go_roundw
              case rel => exact ⟨k + 1, by omega, by go_num, by rw [HNEW.out], HB5.out.trans (hbd.mono HB5.out.size)⟩
              case measure => simp [intOf]; omega
            | true =>
              by_cases hk0 : k = 0
              · subst hk0
                have HNEW : Hid ((pk && allTo (setC f.Regs t.Ins at' x.Sets) (0 + 1)) = true) := by show _ = _; rw [HST.out]; simp [prevR, r1]; omega
                clear HP
                go_wp2_with fail
                first | (refine wp_region_drift_lit (by kernel_rfl) (by kernel_rfl) (fun hdr => ?_); (repeat (first | go_big_quiet_skip | (go_big_quiet_want; (first | ((with_reducible refine qldT rfl rfl HRT.out hsT ?_); simp only [Act.put, List.setIfInBounds_toArray, List.set_cons_succ, List.set_cons_zero]) | go_big_quiet_op); (first | go_big_quiet_on | go_big_quiet_call ((go_at_call 116; with_reducible exact drift_of (HVL.out _))))))); refine wpQuiet_nil ?_; intro wq hw'; obtain ⟨⟨wd, hbd⟩, hw''⟩ := hw'; dsimp only at hw''; subst wq; clear hdr)
                go_wp2_with fail
                go_roundw
                case rel => exact ⟨0 + 1, by omega, by go_num, by rw [HNEW.out], HB5.out.trans (hbd.mono HB5.out.size)⟩
                case measure => simp [intOf]; omega
              · obtain ⟨k', rfl⟩ : ∃ k', k = k' + 1 := ⟨k - 1, by omega⟩
                obtain ⟨y', hy'⟩ : ∃ y', x.Sets[k']? = some y' := ⟨_, List.getElem?_eq_getElem (by rw [HM5.out.lenS]; omega)⟩
                have e1 : prevR x.Sets (k' + 1) = y'.Reg := by
                 unfold prevR
                 rw [if_neg (by omega)]
                 simp only [Nat.add_sub_cancel, hy']
                have v0 := tset_at HM5.out.sets hy'
                have hbs5 : bs < w5.heap.size := by omega
                have wm : IntKind.i64.wrap (k' : Int) = (k' : Int) := by rw [IntKind.wrap_i64]; omega
                have dk : (((k' : Int) + 1) == 0) = false := by simp; omega
                have dk2 : (k' : Int) < (nS : Int) := by omega
                have HE1 := Lib.hid e1
                clear hk0 HP hy' e1
                by_cases hlt2 : y'.Reg < y.Reg
                · have d4 : decide (y'.Reg < y.Reg) = true := decide_eq_true hlt2
                  have HNEW : Hid ((pk && allTo (setC f.Regs t.Ins at' x.Sets) (k' + 1 + 1)) = true) := by show _ = _; rw [HST.out, HE1.out, d4, d2]; rfl
                  go_wp2_with fail
                  first | (refine wp_region_drift_lit (by kernel_rfl) (by kernel_rfl) (fun hdr => ?_); (repeat (first | go_big_quiet_skip | (go_big_quiet_want; (first | ((with_reducible refine qldT rfl rfl HRT.out hsT ?_); simp only [Act.put, List.setIfInBounds_toArray, List.set_cons_succ, List.set_cons_zero]) | go_big_quiet_op); (first | go_big_quiet_on | go_big_quiet_call ((go_at_call 116; with_reducible exact drift_of (HVL.out _))))))); refine wpQuiet_nil ?_; intro wq hw'; obtain ⟨⟨wd, hbd⟩, hw''⟩ := hw'; dsimp only at hw''; subst wq; clear hdr)
                  go_wp2_with fail
                  go_roundw
                  case rel => exact ⟨k' + 1 + 1, by omega, by go_num, by rw [HNEW.out], HB5.out.trans (hbd.mono HB5.out.size)⟩
                  case measure => simp [intOf]; omega
                · have d4 : decide (y'.Reg < y.Reg) = false := decide_eq_false hlt2
                  have HNEW : Hid ((pk && allTo (setC f.Regs t.Ins at' x.Sets) (k' + 1 + 1)) = false) := by show _ = _; rw [HST.out, HE1.out, d4]; rfl
                  go_wp2_with fail
                  first | (refine wp_region_drift_lit (by kernel_rfl) (by kernel_rfl) (fun hdr => ?_); (repeat (first | go_big_quiet_skip | (go_big_quiet_want; (first | ((with_reducible refine qldT rfl rfl HRT.out hsT ?_); simp only [Act.put, List.setIfInBounds_toArray, List.set_cons_succ, List.set_cons_zero]) | go_big_quiet_op); (first | go_big_quiet_on | go_big_quiet_call ((go_at_call 116; with_reducible exact drift_of (HVL.out _))))))); refine wpQuiet_nil ?_; intro wq hw'; obtain ⟨⟨wd, hbd⟩, hw''⟩ := hw'; dsimp only at hw''; subst wq; clear hdr)
                  go_wp2_with fail
                  go_roundw
                  case rel => exact ⟨k' + 1 + 1, by omega, by go_num, by rw [HNEW.out], HB5.out.trans (hbd.mono HB5.out.size)⟩
                  case measure => simp [intOf]; omega
          · have d2 : decide (y.Reg < f.Regs) = false := decide_eq_false r1
            have HNEW : Hid ((pk && allTo (setC f.Regs t.Ins at' x.Sets) (k + 1)) = false) := by show _ = _; rw [HST.out, d2]; simp
            clear HP
            go_wp2_with fail
            first | (refine wp_region_drift_lit (by kernel_rfl) (by kernel_rfl) (fun hdr => ?_); (repeat (first | go_big_quiet_skip | (go_big_quiet_want; (first | ((with_reducible refine qldT rfl rfl HRT.out hsT ?_); simp only [Act.put, List.setIfInBounds_toArray, List.set_cons_succ, List.set_cons_zero]) | go_big_quiet_op); (first | go_big_quiet_on | go_big_quiet_call ((go_at_call 116; with_reducible exact drift_of (HVL.out _))))))); refine wpQuiet_nil ?_; intro wq hw'; obtain ⟨⟨wd, hbd⟩, hw''⟩ := hw'; dsimp only at hw''; subst wq; clear hdr)
            go_wp2_with fail
            go_roundw
            case rel => exact ⟨k + 1, by omega, by go_num, by rw [HNEW.out], HB5.out.trans (hbd.mono HB5.out.size)⟩
            case measure => simp [intOf]; omega
        · have d1 : decide (0 ≤ y.Reg) = false := decide_eq_false r0
          have HNEW : Hid ((pk && allTo (setC f.Regs t.Ins at' x.Sets) (k + 1)) = false) := by show _ = _; rw [HST.out, decide_eq_false (by omega : ¬ prevR x.Sets k < y.Reg)]; rfl
          clear HP
          go_wp2_with fail
          first | (refine wp_region_drift_lit (by kernel_rfl) (by kernel_rfl) (fun hdr => ?_); (repeat (first | go_big_quiet_skip | (go_big_quiet_want; (first | ((with_reducible refine qldT rfl rfl HRT.out hsT ?_); simp only [Act.put, List.setIfInBounds_toArray, List.set_cons_succ, List.set_cons_zero]) | go_big_quiet_op); (first | go_big_quiet_on | go_big_quiet_call ((go_at_call 116; with_reducible exact drift_of (HVL.out _))))))); refine wpQuiet_nil ?_; intro wq hw'; obtain ⟨⟨wd, hbd⟩, hw''⟩ := hw'; dsimp only at hw''; subst wq; clear hdr)
          go_wp2_with fail
          go_roundw
          case rel => exact ⟨k + 1, by omega, by go_num, by rw [HNEW.out], HB5.out.trans (hbd.mono HB5.out.size)⟩
          case measure => simp [intOf]; omega
   · have hkn : k = x.Sets.length := by rw [k5.lenS]; omega
     have HE : Hid (exitOk f.Regs nO t.Ins x at' = ((pk && allTo (setC f.Regs t.Ins at' x.Sets) k) && allTo (makeC t.Ins at' x.Makes) x.Makes.length)) := by
      show _ = _
      rw [HE.out, hkn, Bool.and_assoc]
     obtain ⟨q, hq⟩ : ∃ b, b = (pk && allTo (setC f.Regs t.Ins at' x.Sets) k) := ⟨_, rfl⟩
     rw [← hq] at HE ⊢
     have x3 := k2.cell k5.c3
     clear hq hkn hbr k1 k2 k3 k4 k5 k6 k7 HPK lX x2
     go_wp2_with fail
     clear x3 lX2 hlt hk hsz4 hXs
     go_loopw [10, 92] (fun s10 i wv => ∃ k : Nat, k ≤ nM ∧ i = .int .i64 k ∧ s10 = .bool (q && allTo (makeC t.Ins at' x.Makes) k) ∧ Below w4.heap.size w4 wv) (fun _ i _ => nM - (intOf i).toNat)
     case atStart => exact ⟨0, Nat.zero_le _, rfl, by simp [allTo], HBR.out⟩
     case round =>
      obtain ⟨wv, rfl⟩ : ∃ wv : World, wv = wr := ⟨_, rfl⟩
      obtain ⟨k, hk, rfl, rfl, hbr⟩ := hrel
      have HBV := Lib.hid hbr
      obtain ⟨n1, n2, n3, n4, n5, n6, n7⟩ := HCE.out wv hbr
      by_cases hlt : k < nM
      · obtain ⟨m, hm⟩ : ∃ m, x.Makes[k]? = some m := ⟨_, List.getElem?_eq_getElem (by rw [n5.lenM]; exact hlt)⟩
        obtain ⟨bm, om, aV, dV, rfl, hSm, y0, y1, y2, y3, -, -, -, hv⟩ := api_TMake_elem n5.makes hm
        obtain ⟨nV, hnV⟩ : ∃ n, n = m.Vals.length := ⟨_, rfl⟩
        have hbm := n6 bm hSm
        rw [← hnV] at y3
        obtain ⟨w5, hw5⟩ : ∃ w5, w5 = wv.alloc (.cells #[.int .i64 m.Cell, .int .i64 m.Kind, .int .i64 m.Num, .slice aV nV dV] 100) := ⟨_, rfl⟩
        have hb5 : Below wv.heap.size wv w5 := by rw [hw5]; exact cod.below_al2 _
        have HB5 : Hid (Below w4.heap.size w4 w5) := hbr.trans (hb5.mono hbr.size)
        have hrow := row_new wv #[.int .i64 m.Cell, .int .i64 m.Kind, .int .i64 m.Num, .slice aV nV dV] 100
        rw [← hw5] at hrow
        have HV5 : Hid (Arr S w5 aV m.Vals) := hv.2.2.keep fun b hb => hb5.block b (n6 b hb)
        have HSP := Lib.hid (make_split (ins := t.Ins) (at' := at') hm q)
        have HNV := Lib.hid hnV
        have hV9 : nV ≤ 9223372036854775807 := by rw [hnV]; have := hv.2.2.small; unfold maxLen at this; omega
        obtain ⟨gM, hgM⟩ : ∃ g, g = wv.heap.size := ⟨_, rfl⟩
        have HM := Lib.hid hm
        obtain ⟨b, hb⟩ : ∃ b, b = (q && allTo (makeC t.Ins at' x.Makes) k) := ⟨_, rfl⟩
        rw [← hb] at HSP ⊢
        have HGM := Lib.hid hgM
        rw [← hgM] at hrow
        clear hnV hgM hb hm hv
        go_upto_region 11 with fail
        rw [← hw5, ← HGM.out]
        have hbm5 : bm < w5.heap.size := Nat.lt_of_lt_of_le hbm hb5.size
        clear hw5 y0 y1 y2 y3 hbr n1 n2 n3 n4 n5 n6 n7 hbm hb5
        obtain ⟨m1, m2, m3, m4, m5, m6, m7⟩ := HCE.out w5 HB5.out
        obtain ⟨aI, nI, cI, hTI⟩ := tin_of m4
        have z0 := hrow.cell (j := 0) rfl; have z1 := hrow.cell (j := 1) rfl; have z2 := hrow.cell (j := 2) rfl; have z3 := hrow.cell (j := 3) rfl
        have x3' := m2.cell m5.c3
        have t3' := m1.cell hTI.c3
        have lM := hrow.lt; have lX5 := m2.lt; have lT5 := m1.lt
        have hI9 := hTI.few
        have HROW := Lib.hid hrow
        have HRT : Hid (∀ W, (∃ d : Drift w5, W = d.val) → Row W gT 34 T) := fun W ⟨d, hd⟩ => by rw [hd]; exact m1.keep (d.below.block _ m1.lt)
        obtain ⟨vb, hvb⟩ : ∃ b, b = valAt t.Ins m.Cell at' := ⟨_, rfl⟩
        have HVL : Hid (∀ d : Drift w5, Calls Tryd.prog 116 #[.agg T, .int .i64 m.Cell, .int .i64 at'] d.val fun e w' => e = .returned (.bool vb) ∧ Below d.val.heap.size d.val w') := fun d => by
         rw [hvb]
         exact value_any (Rep.keep (fun b hb => d.below.block b (m6 b hb)) m4) (fun b hb => Nat.lt_of_lt_of_le (m6 b hb) d.below.size) _ _
        have HM1 : Hid (mk1 t.Ins at' x.Makes k m = (vb && (decide (opAt t.Ins m.Cell = 18) && (decide (k = 0) || decide (prevC x.Makes k < m.Cell))))) := by show _ = _; rw [hvb]; rfl
        have HM5 := Lib.hid m5; have HTI := Lib.hid hTI
        have HVB := Lib.hid hvb
        have HM6 := Lib.hid m6; have HM4 := Lib.hid m4; have HM1R := Lib.hid m1
        clear hvb m1 m2 m3 m4 m5 m6 m7 hrow hTI
        go_cut [10] (fun s10 wz => s10 = .bool (b && mk1 t.Ins at' x.Makes k m) ∧ Below w5.heap.size w5 wz)
        case first =>
         as_aux_lemma =>
          cases b with
          | false =>
            first | (refine wp_region_drift_lit (by kernel_rfl) (by kernel_rfl) (fun hdr => ?_); (repeat (first | go_big_quiet_skip | (go_big_quiet_want; (first | ((with_reducible refine qldT rfl rfl HRT.out hsT ?_); simp only [Act.put, List.setIfInBounds_toArray, List.set_cons_succ, List.set_cons_zero]) | go_big_quiet_op); (first | go_big_quiet_on | go_big_quiet_call ((go_at_call 116; with_reducible exact drift_of (HVL.out _))))))); refine wpQuiet_nil ?_; intro wq hw'; obtain ⟨⟨wd, hbd⟩, hw''⟩ := hw'; dsimp only at hw''; subst wq; clear hdr)
            go_wp2_with fail
            go_meet
            exact ⟨rfl, hbd⟩
          | true =>
            cases vb with
            | false =>
              first | (refine wp_region_drift_lit (by kernel_rfl) (by kernel_rfl) (fun hdr => ?_); (repeat (first | go_big_quiet_skip | (go_big_quiet_want; (first | ((with_reducible refine qldT rfl rfl HRT.out hsT ?_); simp only [Act.put, List.setIfInBounds_toArray, List.set_cons_succ, List.set_cons_zero]) | go_big_quiet_op); (first | go_big_quiet_on | go_big_quiet_call ((go_at_call 116; with_reducible exact drift_of (HVL.out _))))))); refine wpQuiet_nil ?_; intro wq hw'; obtain ⟨⟨wd, hbd⟩, hw''⟩ := hw'; dsimp only at hw''; subst wq; clear hdr)
              go_wp2_with fail
              go_meet
              exact ⟨by rw [HM1.out]; rfl, hbd⟩
            | true =>
              have hin : 0 ≤ m.Cell ∧ m.Cell < at' ∧ m.Cell < t.Ins.length := by
               by_cases h : 0 ≤ m.Cell ∧ m.Cell < at' ∧ m.Cell < t.Ins.length
               · exact h
               · have := HVB.out; rw [valAt_not h] at this; cases this
              obtain ⟨mc, mk, mn, mv⟩ := m
              dsimp only at hin z0 z1 z2 HM1 HSP HV5 HNV HM HVL HVB HROW ⊢
              obtain ⟨c, rfl⟩ : ∃ c : Nat, mc = c := ⟨mc.toNat, by omega⟩
              obtain ⟨xi, hxi⟩ : ∃ xi, t.Ins[c]? = some xi := ⟨_, List.getElem?_eq_getElem (by omega)⟩
              obtain ⟨bi, oi, rfl, hSi, i0⟩ := arr_ins_op HTI.out.ins hxi
              have hbi := HM6.out bi hSi
              have hcn : (c : Int) < (nI : Int) := by rw [← HTI.out.len]; exact hin.2.2
              have HOP : Hid (opAt t.Ins (c : Int) = xi.Op) := by show _ = _; unfold opAt; simp [hxi]
              clear hin hxi hSi
              by_cases h18 : xi.Op = 18
              · have d18 : (xi.Op == 18) = true := by simp [h18]
                by_cases hk0 : k = 0
                · have dk : ((k : Int) == 0) = true := by simp [hk0]
                  have HM1 : Hid (mk1 t.Ins at' x.Makes k ⟨c, mk, mn, mv⟩ = true) := by show _ = _; rw [HM1.out, HOP.out]; simp [h18, hk0]
                  clear h18 hk0
                  first | (refine wp_region_drift_lit (by kernel_rfl) (by kernel_rfl) (fun hdr => ?_); (repeat (first | go_big_quiet_skip | (go_big_quiet_want; (first | ((with_reducible refine qldT rfl rfl HRT.out hsT ?_); simp only [Act.put, List.setIfInBounds_toArray, List.set_cons_succ, List.set_cons_zero]) | go_big_quiet_op); (first | go_big_quiet_on | go_big_quiet_call ((go_at_call 116; with_reducible exact drift_of (HVL.out _))))))); refine wpQuiet_nil ?_; intro wq hw'; obtain ⟨⟨wd, hbd⟩, hw''⟩ := hw'; dsimp only at hw''; subst wq; clear hdr)
                  go_wp2_with fail
                  go_meet
                  exact ⟨by rw [HM1.out]; rfl, hbd⟩
                · obtain ⟨k', rfl⟩ : ∃ k', k = k' + 1 := ⟨k - 1, by omega⟩
                  obtain ⟨y', hy'⟩ : ∃ y', x.Makes[k']? = some y' := ⟨_, List.getElem?_eq_getElem (by rw [HM5.out.lenM]; omega)⟩
                  have e1 : prevC x.Makes (k' + 1) = y'.Cell := by
                   unfold prevC
                   rw [if_neg (by omega)]
                   simp only [Nat.add_sub_cancel, hy']
                  have v0 := tmake_at HM5.out.makes hy'
                  have wm : IntKind.i64.wrap (k' : Int) = (k' : Int) := by rw [IntKind.wrap_i64]; omega
                  have dk : (((k' : Int) + 1) == 0) = false := by simp; omega
                  have dk2 : (k' : Int) < (nM : Int) := by omega
                  have HE1 := Lib.hid e1
                  cases d4 : decide (y'.Cell < (c : Int))
                  all_goals
                   have HM1' : Hid (mk1 t.Ins at' x.Makes (k' + 1) ⟨c, mk, mn, mv⟩ = decide (y'.Cell < (c : Int))) := by show _ = _; rw [HM1.out, HOP.out, HE1.out]; simp [h18]
                   rw [d4] at HM1'
                   clear h18 hk0 hy' e1
                   first | (refine wp_region_drift_lit (by kernel_rfl) (by kernel_rfl) (fun hdr => ?_); (repeat (first | go_big_quiet_skip | (go_big_quiet_want; (first | ((with_reducible refine qldT rfl rfl HRT.out hsT ?_); simp only [Act.put, List.setIfInBounds_toArray, List.set_cons_succ, List.set_cons_zero]) | go_big_quiet_op); (first | go_big_quiet_on | go_big_quiet_call ((go_at_call 116; with_reducible exact drift_of (HVL.out _))))))); refine wpQuiet_nil ?_; intro wq hw'; obtain ⟨⟨wd, hbd⟩, hw''⟩ := hw'; dsimp only at hw''; subst wq; clear hdr)
                   go_wp2_with fail
                   go_meet
                   exact ⟨by rw [HM1'.out]; rfl, hbd⟩
              · have d18 : (xi.Op == 18) = false := by simpa using h18
                have HM1 : Hid (mk1 t.Ins at' x.Makes k ⟨c, mk, mn, mv⟩ = false) := by show _ = _; rw [HM1.out, HOP.out]; simp [h18]
                clear h18
                first | (refine wp_region_drift_lit (by kernel_rfl) (by kernel_rfl) (fun hdr => ?_); (repeat (first | go_big_quiet_skip | (go_big_quiet_want; (first | ((with_reducible refine qldT rfl rfl HRT.out hsT ?_); simp only [Act.put, List.setIfInBounds_toArray, List.set_cons_succ, List.set_cons_zero]) | go_big_quiet_op); (first | go_big_quiet_on | go_big_quiet_call ((go_at_call 116; with_reducible exact drift_of (HVL.out _))))))); refine wpQuiet_nil ?_; intro wq hw'; obtain ⟨⟨wd, hbd⟩, hw''⟩ := hw'; dsimp only at hw''; subst wq; clear hdr)
                go_wp2_with fail
                go_meet
                exact ⟨by rw [HM1.out]; rfl, hbd⟩
        case rest =>
         obtain ⟨rfl, hb6⟩ := hcut
         obtain ⟨w6, hw6⟩ : ∃ w6 : World, w6 = wc := ⟨_, rfl⟩
         rw [← hw6] at hb6 ⊢
         clear hw6
         have HB6 := Lib.hid hb6
         obtain ⟨b2, hb2⟩ : ∃ b2, b2 = (b && mk1 t.Ins at' x.Makes k m) := ⟨_, rfl⟩
         rw [← hb2] at HSP ⊢
         have hrow6 := HROW.out.keep (hb6.block _ HROW.out.lt)
         have e1 := hrow6.cell (j := 1) rfl; have e2 := hrow6.cell (j := 2) rfl; have e3 := hrow6.cell (j := 3) rfl
         have lM6 := hrow6.lt
         clear hb2 hb6 hrow6 z0 z1 z2 z3 x3' t3' lM lX5 lT5 HVB HVL HM1 HRT hbm5
         have HHAS : Hid (∀ v : Int, Calls Tryd.prog 32 #[.slice (some ⟨w6.heap.size, 0, none⟩) 3 3, .int .i64 v] (w6.alloc (.cells #[.int .i64 1, .int .i64 2, .int .i64 3] 3)) fun e w' => e = .returned (.bool (decide (1 ≤ v) && decide (v ≤ 3))) ∧ Below w6.heap.size w6 w') := fun v => by
          refine (has_any (S := fun _ => True) (xs := [1, 2, 3]) ((blk_new w6 _ _).arr (zs := [1, 2, 3]) (by unfold I64; simp) (by simp [maxLen]) trivial)).mono fun e w' ⟨he, hq⟩ => ⟨?_, below_of_has hq⟩
          rw [he]
          congr 2
          rw [Bool.eq_iff_iff]
          simp
          omega
         have HM2 : Hid (mk2 m = ((decide (1 ≤ m.Kind) && decide (m.Kind ≤ 3)) && (decide (0 ≤ m.Num) && ((decide (m.Num = 0) || decide (m.Kind = 1)) && decide (nV ≤ 100))))) := by show _ = _; rw [HNV.out]; rfl
         go_upto_region 12 with fail
         go_cut [10] (fun s10 wz => s10 = .bool (b2 && mk2 m) ∧ Below w6.heap.size w6 wz)
         case first =>
          as_aux_lemma =>
           cases b2 with
           | false =>
             go_wp2_with fail
             go_meet
             exact ⟨rfl, Below.refl _ _⟩
           | true =>
             obtain ⟨hs, hhs⟩ : ∃ hs, hs = (decide (1 ≤ m.Kind) && decide (m.Kind ≤ 3)) := ⟨_, rfl⟩
             have HH := Lib.hid (HHAS.out m.Kind)
             rw [← hhs] at HH HM2
             clear hhs HHAS
             cases hs with
             | false =>
               go_wp2_with (go_at_call 32; (with_reducible refine HH.out.mono ?_); rintro e w7 ⟨rfl, hb7⟩; have HB7 := Lib.hid hb7; clear hb7)
               go_meet
               exact ⟨by rw [HM2.out]; rfl, HB7.out⟩
             | true =>
               have HC7 : Hid (∀ W, Below w6.heap.size w6 W → Row W gM 100 #[.int .i64 m.Cell, .int .i64 m.Kind, .int .i64 m.Num, .slice aV nV dV]) := fun W hb => (HROW.out.keep (HB6.out.block _ HROW.out.lt)).keep (hb.block _ lM6)
               cases d1 : decide (0 ≤ m.Num) with
               | false =>
                 rw [d1] at HM2
                 go_wp2_with (go_at_call 32; (with_reducible refine HH.out.mono ?_); rintro e w7 ⟨rfl, hb7⟩; have HB7 := Lib.hid hb7; have hr7 := HC7.out w7 hb7; have g2 := hr7.cell (j := 2) rfl; have lM7 := hr7.lt; clear hb7 hr7)
                 go_meet
                 exact ⟨by rw [HM2.out]; rfl, HB7.out⟩
               | true =>
                 rw [d1] at HM2
                 have hlast : ∀ b3 : Bool, decide ((nV : Int) ≤ 100) = b3 → decide (nV ≤ 100) = b3 := fun b3 h => by rw [← h]; simp; omega
                 obtain ⟨b3, hb3⟩ : ∃ b3, decide ((nV : Int) ≤ 100) = b3 := ⟨_, rfl⟩
                 have hb3' := hlast b3 hb3
                 rw [hb3'] at HM2
                 clear hlast
                 cases d3 : decide (m.Kind = 1) with
                 | true =>
                   rw [d3] at HM2
                   have d3' : (m.Kind == 1) = true := by simpa using d3
                   clear d3
                   cases b3
                   all_goals
                    go_wp2_with (go_at_call 32; (with_reducible refine HH.out.mono ?_); rintro e w7 ⟨rfl, hb7⟩; have HB7 := Lib.hid hb7; have hr7 := HC7.out w7 hb7; have g1 := hr7.cell (j := 1) rfl; have g2 := hr7.cell (j := 2) rfl; have g3 := hr7.cell (j := 3) rfl; have lM7 := hr7.lt; clear hb7 hr7)
                    go_meet
                    exact ⟨by rw [HM2.out]; simp, HB7.out⟩
                 | false =>
                   have d3' : (m.Kind == 1) = false := by simpa using d3
                   rw [d3] at HM2
                   clear d3
                   cases d2 : decide (m.Num = 0) with
                   | false =>
                     rw [d2] at HM2
                     have d2' : (m.Num == 0) = false := by simpa using d2
                     clear d2
                     go_wp2_with (go_at_call 32; (with_reducible refine HH.out.mono ?_); rintro e w7 ⟨rfl, hb7⟩; have HB7 := Lib.hid hb7; have hr7 := HC7.out w7 hb7; have g1 := hr7.cell (j := 1) rfl; have g2 := hr7.cell (j := 2) rfl; have g3 := hr7.cell (j := 3) rfl; have lM7 := hr7.lt; clear hb7 hr7)
                     go_meet
                     exact ⟨by rw [HM2.out]; rfl, HB7.out⟩
                   | true =>
                     rw [d2] at HM2
                     have d2' : (m.Num == 0) = true := by simpa using d2
                     clear d2
                     cases b3
                     all_goals
                      go_wp2_with (go_at_call 32; (with_reducible refine HH.out.mono ?_); rintro e w7 ⟨rfl, hb7⟩; have HB7 := Lib.hid hb7; have hr7 := HC7.out w7 hb7; have g1 := hr7.cell (j := 1) rfl; have g2 := hr7.cell (j := 2) rfl; have g3 := hr7.cell (j := 3) rfl; have lM7 := hr7.lt; clear hb7 hr7)
                      go_meet
                      exact ⟨by rw [HM2.out]; rfl, HB7.out⟩
         case rest =>
          obtain ⟨rfl, hb7⟩ := hcut
          obtain ⟨w7, hw7⟩ : ∃ w7 : World, w7 = wc := ⟨_, rfl⟩
          rw [← hw7] at hb7 ⊢
          clear hw7
          have HB7 : Hid (Below w5.heap.size w5 w7) := HB6.out.trans (hb7.mono HB6.out.size)
          obtain ⟨b3, hb3⟩ : ∃ b3, b3 = (b2 && mk2 m) := ⟨_, rfl⟩
          rw [← hb3] at HSP ⊢
          have hr7 := HROW.out.keep (HB7.out.block _ HROW.out.lt)
          have g3 := hr7.cell (j := 3) rfl
          have lM7 := hr7.lt
          clear hb3 hb7 hr7 e1 e2 e3 lM6 HM2 HHAS
          go_wp2_with fail
          go_loopw [10, 162] (fun s10 i wz => ∃ j : Nat, j ≤ nV ∧ i = .int .i64 j ∧ s10 = .bool (b3 && (m.Vals.take j).all fun v => valAt t.Ins v at') ∧ Below w5.heap.size w5 wz) (fun _ i _ => nV - (intOf i).toNat)
          case atStart => exact ⟨0, Nat.zero_le _, rfl, by simp, HB7.out⟩
          case round =>
           obtain ⟨j, hj, rfl, rfl, hbz⟩ := hrel
           have HBZ := Lib.hid hbz
           clear g3 lM7
           by_cases hlv : j < nV
           · obtain ⟨v, hv⟩ : ∃ v, m.Vals[j]? = some v := ⟨_, List.getElem?_eq_getElem (by rw [← HNV.out]; exact hlv)⟩
             obtain ⟨bv, ov, rfl, hSv, v0, -⟩ := arr_int (HV5.out.keep (w' := wr) fun b hb => hbz.block b (HM6.out b hb)) hv
             have hbv : bv < wr.heap.size := Nat.lt_of_lt_of_le (HM6.out bv hSv) hbz.size
             have HRZ : Hid (Row wr gT 34 T) := HM1R.out.keep (hbz.block _ HM1R.out.lt)
             obtain ⟨vv, hvv⟩ : ∃ b, b = valAt t.Ins v at' := ⟨_, rfl⟩
             have HVZ : Hid (Calls Tryd.prog 116 #[.agg T, .int .i64 v, .int .i64 at'] wr fun e w' => e = .returned (.bool vv) ∧ Below wr.heap.size wr w') := by
              rw [hvv]
              exact value_any (Rep.keep (fun b hb => hbz.block b (HM6.out b hb)) HM4.out) (fun b hb => Nat.lt_of_lt_of_le (HM6.out b hb) hbz.size) _ _
             obtain ⟨b4, hb4⟩ : ∃ b4, b4 = (b3 && (m.Vals.take j).all fun v => valAt t.Ins v at') := ⟨_, rfl⟩
             have HNX : Hid ((b3 && (m.Vals.take (j + 1)).all fun v => valAt t.Ins v at') = (b4 && vv)) := by
              show _ = _
              rw [hb4, hvv, List.take_add_one, hv]
              simp [Bool.and_assoc]
             rw [← hb4]
             clear hb4 hvv hv hbz hSv
             as_aux_lemma =>
              cases b4 with
              | false =>
                go_wp2_with fail
                go_roundw
                case rel => exact ⟨j + 1, by omega, by go_num, by rw [HNX.out]; rfl, HBZ.out⟩
                case measure => simp [intOf]; omega
              | true =>
                go_wp2_with (first
                 | (with_reducible refine ldT rfl rfl rfl HRZ.out hsT ?_)
                 | (go_at_call 116; (with_reducible refine HVZ.out.mono ?_); rintro e wy ⟨rfl, hby⟩; have HBY := Lib.hid hby; clear hby))
                go_roundw
                case rel => exact ⟨j + 1, by omega, by go_num, by rw [HNX.out]; rfl, HBZ.out.trans (HBY.out.mono HBZ.out.size)⟩
                case measure => simp [intOf]; omega
           · have hjn : j = m.Vals.length := by rw [← HNV.out]; omega
             have HNX : Hid ((q && allTo (makeC t.Ins at' x.Makes) (k + 1)) = (b3 && (m.Vals.take j).all fun v => valAt t.Ins v at')) := by
              show _ = _
              rw [HSP.out, hjn, List.take_length]
             obtain ⟨b4, hb4⟩ : ∃ b4, b4 = (b3 && (m.Vals.take j).all fun v => valAt t.Ins v at') := ⟨_, rfl⟩
             rw [← hb4] at HNX ⊢
             clear hb4 hbz hjn
             go_wp2_with fail
             go_roundw
             case rel => exact ⟨k + 1, by omega, by go_num, by rw [HNX.out], HB5.out.trans (HBZ.out.mono HB5.out.size)⟩
             case measure => simp [intOf]; omega
      · have hkn : k = x.Makes.length := by rw [n5.lenM]; omega
        have HE : Hid (exitOk f.Regs nO t.Ins x at' = (q && allTo (makeC t.Ins at' x.Makes) k)) := by show _ = _; rw [HE.out, hkn]
        obtain ⟨b, hb⟩ : ∃ b, b = (q && allTo (makeC t.Ins at' x.Makes) k) := ⟨_, rfl⟩
        rw [← hb] at HE ⊢
        clear hb hkn n1 n2 n3 n4 n5 n6 n7
        have HEND := Lib.hid (HCE.out wv hbr).2.2.2.2.2.2
        clear hbr
        go_wp2_with fail
        go_ret
        exact ⟨by rw [HE.out]; rfl, HEND.out⟩
end Go.Proofs.YtekofpigmggbbaaDoor.chk
