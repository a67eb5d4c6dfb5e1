/- The document's Peel: walked. -/
import Derived.Test.YtekofpigmggbbaaDoorQPeelF
import Derived.Test.YtekofpigmggbbaaDoorQPeelG
import Derived.Test.YtekofpigmggbbaaDoorQPeelI
import Derived.Test.YtekofpigmggbbaaDoorQPut
import Derived.Deep.RegionHeld3
import Derived.Deep.CutBlock
set_option linter.unusedVariables false
set_option linter.unusedSimpArgs false
namespace Go.Proofs.YtekofpigmggbbaaDoor.peel
open Go.Bk Go.RowKit Go.Proofs.YtekofpigmggbbaaDoor.ir Go.Proofs.YtekofpigmggbbaaDoor.chk Go.Proofs.YtekofpigmggbbaaDoor.cut Go.Proofs.YtekofpigmggbbaaDoor.pas
attribute [local go_sem ↓] Go.wp_at_zero Go.wp_at_succ
theorem PW.of_own {w1 W4 W : World} {go B : Nat} {C : Array Value} {t : Api.TTrace} (hC : OwnT B W4 C.toList t) (hk : ∀ k, B ≤ k → k < W4.heap.size → W.heap[k]? = W4.heap[k]?) (hrow : Row W go 34 C) (hsz : W4.heap.size ≤ W.heap.size) (hgo : go < B ∨ W4.heap.size ≤ go) (hB : w1.heap.size ≤ B) (hg1 : w1.heap.size ≤ go) (hb : Below w1.heap.size w1 W) :
 ∃ vI vE u0 u1 u2 u3 v0 v1 v2 v3, PW w1 0 go u0 u1 u2 u3 v0 v1 v2 v3 W vI vE t := by
 obtain ⟨vI, vE, u0, u1, u2, u3, v0, v1, v2, v3, hc, h1, h2, h3, h4, h5⟩ := hC
 have l1 := h1.lt; have l2 := h2.lt
 have hx : ∀ k, SBT B W4 vI vE k → SX 0 w1.heap.size go W vI vE k := fun k hk' => ⟨by have := hk'.1; have := hk'.2.1; omega, by have := hk'.2.1; omega, hk'.2.2.1, hk'.2.2.2, .inr (Nat.le_trans hB hk'.1)⟩
 have hcc : C = #[.int .i64 t.Fn, .int .i64 t.At, .int .i64 t.Loop, vI, vE, u0, u1, u2, u3, v0, v1, v2, v3] := by apply Array.ext'; simpa using hc
 refine ⟨vI, vE, u0, u1, u2, u3, v0, v1, v2, v3, by rw [← hcc]; exact hrow, own_base2 (own_same' h1 (fun b hb' => hk b (l1 b hb').1 (l1 b hb').2) (fun _ h => h.elim)) hB, own_base2 ((own_same' h2 (fun b hb' => hk b (l2 b hb').1 (l2 b hb').2) (fun b hb' => hk b hb'.1 hb'.2.1)).mono hx) hB, h3, Rep.mono hx (Rep.keep (fun b hb' => hk b hb'.1 hb'.2.1) h4), Rep.mono hx (Rep.keep (fun b hb' => hk b hb'.1 hb'.2.1) h5), ⟨fun e => by have := l1 _ e; omega, fun e => by have := l2 _ e; omega⟩, hb, hg1⟩
theorem stRow_run {P : Program} {g : Nat} {w : World} {t : TypeId} {C OLD : Array Value} (hg : Row w g t OLD) (ho : OLD.size = C.size) (h1 : C.all (·.oneCell') = true) : (storeCells ⟨g, 0, none⟩ C.toList).run P w = .ok () (w.setRow g C) := by
 have h := run_storeCells_from (P := P) g t C.toList 0 OLD w hg (by simp [ho]) (fun v hv => by simpa using (Array.all_eq_true'.1 h1) v (by simpa using hv))
 simpa using h
theorem own_arr_lt {w : World} {B n c : Nat} {a : Option Addr} {e : TypeId} {xs : List Int} (h : Own (fun _ => False) w B e (.slice a n c) xs) : Arr (fun b => b < w.heap.size) w a xs := by
 obtain ⟨a', c', hv, -, -, harr⟩ := h.arr
 injection hv with h1 h2 h3
 subst h1
 exact harr.mono fun b hb => hb.elim False.elim (·.2)
theorem Arr.lifted {w : World} {a : Option Addr} {xs : List Int} (h : Arr (fun b => b < w.heap.size) w a xs) (o : Array Value) (t : TypeId) : Arr (fun b => b < (w.alloc (.cells o t)).heap.size) (w.alloc (.cells o t)) a xs :=
 (h.keep fun b hb => Below.heap_alloc _ _ _ hb).mono fun b hb => by simp; omega
/-- Some of the second turn is made; the head is still the old one. -/
def rpK (t : Api.TTrace) (ki ke : Nat) : Api.TTrace := ⟨t.Fn, t.At, t.Loop, t.Ins ++ (t.Ins.take ki).map (movedI t.Ins.length t.Exits.length), t.Exits ++ (t.Exits.take ke).map (movedX t.Ins.length), t.Turn, t.Back⟩
theorem rpK_zero (t : Api.TTrace) : t = rpK t 0 0 := by unfold rpK; simp
theorem rpK_ins {t : Api.TTrace} {k ke : Nat} {x : Api.TIns} (h : t.Ins[k]? = some x) : (⟨t.Fn, t.At, t.Loop, (rpK t k ke).Ins ++ [movedI t.Ins.length t.Exits.length x], (rpK t k ke).Exits, t.Turn, t.Back⟩ : Api.TTrace) = rpK t (k + 1) ke := by
 unfold rpK
 rw [List.take_add_one, h]
 simp
theorem rpK_exs {t : Api.TTrace} {k ki : Nat} {x : Api.TExit} (h : t.Exits[k]? = some x) : (⟨t.Fn, t.At, t.Loop, (rpK t ki k).Ins, (rpK t ki k).Exits ++ [movedX t.Ins.length x], t.Turn, t.Back⟩ : Api.TTrace) = rpK t ki (k + 1) := by
 unfold rpK
 rw [List.take_add_one, h]
 simp
theorem more_call {S : Nat → Prop} {w : World} {X : Array Value} {x y : Api.TExit} {n : Int} {gn : Nat} (hc : 0 < w.heap.size) (hx : Rep.cells S w X.toList x) (hS : ∀ k, S k → k < w.heap.size) (hfew : FewX x) (hgood : GoodX (addG n) x) (hgn : w.cell? ⟨gn, 0, none⟩ = some (.int .i64 n)) (hgl : gn < w.heap.size) (hy : y = movedX n x) :
 Calls Tryd.prog 53 #[.agg X, .pointer (some ⟨gn, 0, none⟩)] w fun e w' => ∃ a2 n2 c2 a3 n3 c3, e = .returned (.agg #[.int .i64 y.At, .int .i64 y.Steps, .slice a2 n2 c2, .slice a3 n3 c3]) ∧ Rep.cells (Fresh w w') w' [.int .i64 y.At, .int .i64 y.Steps, .slice a2 n2 c2, .slice a3 n3 c3] y ∧ Below w.heap.size w w' := by
 refine (more_any hc hx hS hfew hgood hgn hgl).mono ?_
 rintro e w' ⟨cs, rfl, hr, hb⟩
 rw [← hy] at hr
 obtain ⟨a2, c2, a3, c3, rfl, -⟩ := api_TExit_cells_eq hr
 exact ⟨a2, _, c2, a3, _, c3, rfl, hr, hb⟩
/-- What the document asks of a value that is asked: its number is its own. -/
theorem toL_test {t : Api.TTrace} (hr : RightT t) {k : Nat} {x : Api.TIns} (hx : t.Ins[k]? = some x) {v : Int} (hv : v ∈ asksOf x) : ∃ u : Nat, v = u ∧ u < k ∧ ∃ z : Int, (toL t t.Ins.length k)[t.Ins.length + u]? = some z ∧ I64 z ∧ (z == v) = ((firmTo t k)[v.toNat]?).getD false := by
 obtain ⟨u, y, rfl, h1, h2, h3⟩ := valAt_iff.1 (hr.asks k x hx v hv)
 have hk := (List.getElem?_eq_some_iff.1 hx).1
 have hf := hr.few
 refine ⟨u, rfl, by omega, peelAt t u, ?_, ?_, ?_⟩
 · unfold toL
   rw [List.getElem?_append_right (by rw [idTo_len]; omega), idTo_len, show t.Ins.length + u - t.Ins.length = u by omega]
   simp [show u < k by omega]
 · have := peelAt_le t u
   unfold I64
   omega
 · have hfu : (firmTo t k)[u]? = (firmTo t (u + 1))[u]? := by
    obtain ⟨m, rfl⟩ : ∃ m, k = u + 1 + m := ⟨k - (u + 1), by omega⟩
    clear h1 hx hv hk
    induction m with
    | zero => rfl
    | succ m ih =>
      show (firmTo t (u + 1 + m) ++ [_])[u]? = _
      rw [List.getElem?_append_left (by rw [firmTo_len]; omega)]
      exact ih
   rw [Int.toNat_natCast, hfu]
   unfold peelAt
   rw [h2]
   dsimp only
   split
   · first | (rw [if_pos h3]; simp_all; done) | (simp_all; done)
   · rename_i h
     have : ((t.Ins.length : Int) + u == (u : Int)) = false := by rw [beq_eq_false_iff_ne]; omega
     rw [this]
     simpa using h
set_option maxRecDepth 100000 in
set_option maxHeartbeats 20000000 in
theorem rpeel_any {S : Nat → Prop} {w : World} {T : Array Value} {t : Api.TTrace} (ht : Rep.cells S w T.toList t) (hS : ∀ b, S b → b < w.heap.size) (hr : RightT t) :
 Calls Tryd.prog 20 #[.agg T] w (RefOut w (peelT t)) := by
 obtain ⟨aI, nI, cI, aE, nE, cE, a7, n7, c7, a8, n8, c8, b7, m7, d7, b8, m8, d8, hall⟩ := tall_of ht
 obtain rfl : T = #[.int .i64 t.Fn, .int .i64 t.At, .int .i64 t.Loop, .slice aI nI cI, .slice aE nE cE, .int .i64 t.Turn.At, .int .i64 t.Turn.Steps, .slice a7 n7 c7, .slice a8 n8 c8, .int .i64 t.Back.At, .int .i64 t.Back.Steps, .slice b7 m7 d7, .slice b8 m8 d8] := by apply Array.ext'; simpa using hall.eq
 obtain ⟨w1, hw1⟩ : ∃ w1, w1 = (w.alloc (.cells #[.int .i64 t.Fn, .int .i64 t.At, .int .i64 t.Loop, .slice aI nI cI, .slice aE nE cE, .int .i64 t.Turn.At, .int .i64 t.Turn.Steps, .slice a7 n7 c7, .slice a8 n8 c8, .int .i64 t.Back.At, .int .i64 t.Back.Steps, .slice b7 m7 d7, .slice b8 m8 d8] 34)).alloc (.cells #[.int .i64 0, .int .i64 0, .int .i64 0, .slice none 0 0, .slice none 0 0, .int .i64 0, .int .i64 0, .slice none 0 0, .slice none 0 0, .int .i64 0, .int .i64 0, .slice none 0 0, .slice none 0 0] 34) := ⟨_, rfl⟩
 obtain ⟨rT, rZ, hb1, hz1⟩ := rows2 w #[.int .i64 t.Fn, .int .i64 t.At, .int .i64 t.Loop, .slice aI nI cI, .slice aE nE cE, .int .i64 t.Turn.At, .int .i64 t.Turn.Steps, .slice a7 n7 c7, .slice a8 n8 c8, .int .i64 t.Back.At, .int .i64 t.Back.Steps, .slice b7 m7 d7, .slice b8 m8 d8] #[.int .i64 0, .int .i64 0, .int .i64 0, .slice none 0 0, .slice none 0 0, .int .i64 0, .int .i64 0, .slice none 0 0, .slice none 0 0, .int .i64 0, .int .i64 0, .slice none 0 0, .slice none 0 0] _ _ w1 hw1
 have HRT : Hid (∀ W, Below w1.heap.size w1 W → Row W w.heap.size 34 #[.int .i64 t.Fn, .int .i64 t.At, .int .i64 t.Loop, .slice aI nI cI, .slice aE nE cE, .int .i64 t.Turn.At, .int .i64 t.Turn.Steps, .slice a7 n7 c7, .slice a8 n8 c8, .int .i64 t.Back.At, .int .i64 t.Back.Steps, .slice b7 m7 d7, .slice b8 m8 d8] ∧ Row W (w.heap.size + 1) 34 zeroTL.toArray) := fun W hb => ⟨rT.keep (hb.block _ rT.lt), rZ.keep (hb.block _ rZ.lt)⟩
 have HB1 := Lib.hid hb1; have HZ1 : Hid (w1.heap.size = w.heap.size + 2) := hz1
 have HDOM := Lib.hid hS
 have HAL : Hid (∀ W, Below w1.heap.size w1 W → TAll S W #[.int .i64 t.Fn, .int .i64 t.At, .int .i64 t.Loop, .slice aI nI cI, .slice aE nE cE, .int .i64 t.Turn.At, .int .i64 t.Turn.Steps, .slice a7 n7 c7, .slice a8 n8 c8, .int .i64 t.Back.At, .int .i64 t.Back.Steps, .slice b7 m7 d7, .slice b8 m8 d8] t aI nI cI aE nE cE a7 n7 c7 a8 n8 c8 b7 m7 d7 b8 m8 d8) := fun W hb => hall.keep fun b hb' => (hb.block b (by have := hS b hb'; omega)).trans (hb1.block b (hS b hb'))
 have HTR : Hid (∀ W, Below w1.heap.size w1 W → Rep.cells S W (#[.int .i64 t.Fn, .int .i64 t.At, .int .i64 t.Loop, .slice aI nI cI, .slice aE nE cE, .int .i64 t.Turn.At, .int .i64 t.Turn.Steps, .slice a7 n7 c7, .slice a8 n8 c8, .int .i64 t.Back.At, .int .i64 t.Back.Steps, .slice b7 m7 d7, .slice b8 m8 d8] : Array Value).toList t) := fun W hb => Rep.keep (fun b hb' => (hb.block b (by have := hS b hb'; omega)).trans (hb1.block b (hS b hb'))) ht
 have HCELL : Hid (∀ W, Below w1.heap.size w1 W → W.cell? ⟨w.heap.size, 0, none⟩ = some (.int .i64 t.Fn) ∧ W.cell? ⟨w.heap.size, 1, none⟩ = some (.int .i64 t.At) ∧ W.cell? ⟨w.heap.size, 2, none⟩ = some (.int .i64 t.Loop) ∧ W.cell? ⟨w.heap.size, 3, none⟩ = some (.slice aI nI cI) ∧ W.cell? ⟨w.heap.size, 4, none⟩ = some (.slice aE nE cE) ∧ W.cell? ⟨w.heap.size, 5, none⟩ = some (.int .i64 t.Turn.At) ∧ W.cell? ⟨w.heap.size, 6, none⟩ = some (.int .i64 t.Turn.Steps) ∧ W.cell? ⟨w.heap.size, 7, none⟩ = some (.slice a7 n7 c7) ∧ W.cell? ⟨w.heap.size, 8, none⟩ = some (.slice a8 n8 c8) ∧ W.cell? ⟨w.heap.size, 9, none⟩ = some (.int .i64 t.Back.At) ∧ W.cell? ⟨w.heap.size, 10, none⟩ = some (.int .i64 t.Back.Steps) ∧ W.cell? ⟨w.heap.size, 11, none⟩ = some (.slice b7 m7 d7) ∧ W.cell? ⟨w.heap.size, 12, none⟩ = some (.slice b8 m8 d8) ∧ w.heap.size < W.heap.size) := fun W hb => by
  have h := (HRT.out W hb).1
  exact ⟨h.cell (j := 0) rfl, h.cell (j := 1) rfl, h.cell (j := 2) rfl, h.cell (j := 3) rfl, h.cell (j := 4) rfl, h.cell (j := 5) rfl, h.cell (j := 6) rfl, h.cell (j := 7) rfl, h.cell (j := 8) rfl, h.cell (j := 9) rfl, h.cell (j := 10) rfl, h.cell (j := 11) rfl, h.cell (j := 12) rfl, h.lt⟩
 have HR := Lib.hid hr
 have HLI : Hid (t.Ins.length = nI) := hall.lenI
 have HLE : Hid (t.Exits.length = nE) := hall.lenE
 have hnI : nI ≤ 300 := by rw [← hall.lenI]; exact hr.few
 have hnE : nE ≤ 200 := by rw [← hall.lenE]; exact hr.fewE
 have HFA : Hid (I64 t.Fn ∧ I64 t.At) := by obtain ⟨_, _, ⟨rfl, h0⟩, ⟨_, _, ⟨rfl, h1⟩, _, _⟩, _⟩ := ht; exact ⟨h0, h1⟩
 have HS0 : Hid (∀ W, Below w1.heap.size w1 W → Calls Tryd.prog 39 #[.agg #[.int .i64 t.Fn, .int .i64 t.At, .int .i64 t.Loop, .slice aI nI cI, .slice aE nE cE, .int .i64 t.Turn.At, .int .i64 t.Turn.Steps, .slice a7 n7 c7, .slice a8 n8 c8, .int .i64 t.Back.At, .int .i64 t.Back.Steps, .slice b7 m7 d7, .slice b8 m8 d8]] W fun e w' => ∃ a c, e = .returned (.slice a nI c) ∧ Own (fun _ => False) w' W.heap.size 3 (.slice a nI c) (idTo nI) ∧ Below W.heap.size W w') := fun W hb => by
  refine (same0_any (HTR.out W hb) (fun b hb' => by have := HDOM.out b hb'; have := hb.size; omega) (by have := HR.out.few; omega)).mono ?_
  rintro e w' ⟨v, rfl, ho, hb'⟩
  rw [HLI.out] at ho
  obtain ⟨a, c, hv, -, -, -⟩ := ho.arr
  rw [idTo_len] at hv
  subst hv
  exact ⟨a, c, rfl, own_base2 ho (Nat.le_succ _), hb'⟩
 have HCU : Hid (∀ W a c, Below w1.heap.size w1 W → Arr (fun b => b < W.heap.size) W a (idTo nI) → Calls Tryd.prog 42 #[.agg #[.int .i64 t.Fn, .int .i64 t.At, .int .i64 t.Loop, .slice aI nI cI, .slice aE nE cE, .int .i64 t.Turn.At, .int .i64 t.Turn.Steps, .slice a7 n7 c7, .slice a8 n8 c8, .int .i64 t.Back.At, .int .i64 t.Back.Steps, .slice b7 m7 d7, .slice b8 m8 d8], .slice a nI c] W fun e w' => ∃ C : Array Value, C.size = 13 ∧ C.all (·.oneCell') = true ∧ e = .returned (.tuple #[.agg C, .bool true]) ∧ Below W.heap.size W w' ∧ OwnT W.heap.size w' C.toList t) := fun W a c hb har => by
  refine (rcut_own (cT := c) (HTR.out W hb) (fun b hb' => by have := HDOM.out b hb'; have := hb.size; omega) har (fun _ h => h) (idTo_len nI) HR.out (by rw [idTo_len, HLI.out]) (by rw [idTo_len]; exact idTo_ok nI nI (Nat.le_refl _)) (by rw [← HLI.out]; exact id_fine HR.out)).mono ?_
  rintro e w' ⟨C, h1, h2, rfl, -, h4, h5⟩
  rw [← HLI.out, cut_id HR.out] at h5
  exact ⟨C, h1, h2, rfl, h4, h5⟩
 clear hall ht hS hr rT rZ hb1 hz1
 go_enter Tryd.func20, Tryd.ntmps20
 go_upto_region 1 with fail
 rw [← hw1]
 clear hw1
 go_cut [3, 4] (fun s3 s4 W => s3 = .pointer (some ⟨w1.heap.size, 0, none⟩) ∧ s4 = .int .i64 (nE : Int) ∧ Below w1.heap.size w1 W ∧ Row W w1.heap.size 3 #[.int .i64 (nI : Int)] ∧ w1.heap.size + 1 = W.heap.size)
 case first =>
  as_aux_lemma =>
   obtain ⟨-, -, -, t3, t4, -, -, -, -, -, -, -, -, lt⟩ := HCELL.out w1 (Below.refl _ _)
   have HF1 : Hid (Row (w1.drew.alloc (.cells #[.int .i64 (nI : Int)] 3)) w1.heap.size 3 #[.int .i64 (nI : Int)]) := row_new w1.drew _ _
   have HF2 : Hid (Below w1.heap.size w1 (w1.drew.alloc (.cells #[.int .i64 (nI : Int)] 3))) := (Below.refl _ _).drew.alloc (Nat.le_refl _) _
   have HF3 : Hid (w1.heap.size + 1 = (w1.drew.alloc (.cells #[.int .i64 (nI : Int)] 3)).heap.size) := by show _ = _; rw [World.size_alloc]; rfl
   refine wp_region_noPanic ?_
   go_region_law (fail)
   all_goals refine NoPanic.normal ?_
   all_goals go_wp2_with fail
   all_goals go_meet
   all_goals exact ⟨rfl, rfl, HF2.out, HF1.out, HF3.out⟩
 case rest =>
  obtain ⟨rfl, rfl, hb2, hrn, hz2⟩ := hcut
  obtain ⟨w2, hw2⟩ : ∃ w2, w2 = wc := ⟨_, rfl⟩
  rw [← hw2] at hb2 hrn hz2 ⊢
  clear hw2
  obtain ⟨gn, hgn⟩ : ∃ gn, gn = w1.heap.size := ⟨_, rfl⟩
  rw [← hgn] at hrn hz2 ⊢
  have HGN : Hid (gn = w.heap.size + 2 ∧ gn + 1 = w2.heap.size) := ⟨by rw [hgn]; exact HZ1.out, hz2⟩
  have HB2 := Lib.hid hb2
  have HUP : Hid (∀ W, Below w2.heap.size w2 W → Below w1.heap.size w1 W) := fun W hb => hb2.trans (hb.mono hb2.size)
  have HNC : Hid (∀ W, Below w2.heap.size w2 W → W.cell? ⟨gn, 0, none⟩ = some (.int .i64 (nI : Int)) ∧ gn < W.heap.size) := fun W hb => by
   have h := hrn.keep (hb.block _ hrn.lt)
   exact ⟨h.cell (j := 0) rfl, h.lt⟩
  clear hb2 hrn hz2 hgn
  go_upto_region 2 with fail
  go_cut [5] (fun s5 W => ∃ (go : Nat) (vI vE u0 u1 u2 u3 v0 v1 v2 v3 : Value), s5 = .pointer (some ⟨go, 0, none⟩) ∧ PW w2 0 go u0 u1 u2 u3 v0 v1 v2 v3 W vI vE (t))
  case first =>
   as_aux_lemma =>
    have HBD : Hid (Below w2.heap.size w2 w2.drew) := (Below.refl _ _).drew
    have HBA : Hid (Below w2.heap.size w2 (w2.drew.alloc (.cells #[.int .i64 0, .int .i64 0, .int .i64 0, .slice none 0 0, .slice none 0 0, .int .i64 0, .int .i64 0, .slice none 0 0, .slice none 0 0, .int .i64 0, .int .i64 0, .slice none 0 0, .slice none 0 0] 34))) := HBD.out.alloc (Nat.le_refl _) _
    have HRA : Hid (Row (w2.drew.alloc (.cells #[.int .i64 0, .int .i64 0, .int .i64 0, .slice none 0 0, .slice none 0 0, .int .i64 0, .int .i64 0, .slice none 0 0, .slice none 0 0, .int .i64 0, .int .i64 0, .slice none 0 0, .slice none 0 0] 34)) w2.heap.size 34 zeroTL.toArray) := row_new w2.drew _ _
    have HLF : Hid (∀ (w3 w4 W : World) (go : Nat) (C : Array Value), Below w2.heap.size w2 w3 → Below w3.heap.size w3 w4 → OwnT w3.heap.size w4 C.toList t → Row W go 34 C → (∀ k, k < w4.heap.size → k ≠ go → W.heap[k]? = w4.heap[k]?) → Below w2.heap.size w2 W → w4.heap.size ≤ W.heap.size → w2.heap.size ≤ go → (go < w3.heap.size ∨ w4.heap.size ≤ go) → ∃ (vI vE u0 u1 u2 u3 v0 v1 v2 v3 : Value), PW w2 0 go u0 u1 u2 u3 v0 v1 v2 v3 W vI vE (t)) := fun w3 w4 W go C h1 h2 h3 h4 h5 h6 h7 h8 h9 =>
     PW.of_own h3 (fun k e1 e2 => h5 k e2 (by omega)) h4 h7 h9 h1.size h8 h6
    have HD := Lib.hid (HCELL.out w2.drew (HUP.out _ HBD.out))
    obtain ⟨g0, g1, g2, g3, g4, g5, g6, g7, g8, g9, g10, g11, g12, gl⟩ := HD.out
    go_region_held3 (fun W => W.cell? ⟨w.heap.size, 0, none⟩ = some (.int .i64 t.Fn) ∧ W.cell? ⟨w.heap.size, 1, none⟩ = some (.int .i64 t.At) ∧ W.cell? ⟨w.heap.size, 2, none⟩ = some (.int .i64 t.Loop) ∧ W.cell? ⟨w.heap.size, 3, none⟩ = some (.slice aI nI cI) ∧ W.cell? ⟨w.heap.size, 4, none⟩ = some (.slice aE nE cE) ∧ W.cell? ⟨w.heap.size, 5, none⟩ = some (.int .i64 t.Turn.At) ∧ W.cell? ⟨w.heap.size, 6, none⟩ = some (.int .i64 t.Turn.Steps) ∧ W.cell? ⟨w.heap.size, 7, none⟩ = some (.slice a7 n7 c7) ∧ W.cell? ⟨w.heap.size, 8, none⟩ = some (.slice a8 n8 c8) ∧ W.cell? ⟨w.heap.size, 9, none⟩ = some (.int .i64 t.Back.At) ∧ W.cell? ⟨w.heap.size, 10, none⟩ = some (.int .i64 t.Back.Steps) ∧ W.cell? ⟨w.heap.size, 11, none⟩ = some (.slice b7 m7 d7) ∧ W.cell? ⟨w.heap.size, 12, none⟩ = some (.slice b8 m8 d8) ∧ w.heap.size < W.heap.size)
     (first
      | exact HD.out
      | exact HCELL.out _ (HUP.out _ HBA.out)
      | exact HCELL.out _ (HUP.out _ (below_setRow HB4A.out HB4.out.size _))
      | exact HCELL.out _ (HUP.out _ (below_setRow HB4.out (Nat.le_refl _) _))
      | exact HCELL.out _ (HUP.out _ (below_setRow HB4.out HB3.out.size _))
      | exact HCELL.out _ (HUP.out _ HB4A.out)
      | exact HCELL.out _ (HUP.out _ HB4.out)
      | exact HCELL.out _ (HUP.out _ HB3A.out)
      | exact HCELL.out _ (HUP.out _ HB3.out))
     (first
      | (go_at_call 39; refine (HS0.out _ (HUP.out _ HBD.out)).mono ?_; rintro e w3 ⟨a3, c3, rfl, ho3, hb3⟩; have HB3 : Hid (Below w2.heap.size w2 w3) := HBD.out.trans hb3; have HB3A : Hid (Below w2.heap.size w2 (w3.alloc (.cells #[.int .i64 0, .int .i64 0, .int .i64 0, .slice none 0 0, .slice none 0 0, .int .i64 0, .int .i64 0, .slice none 0 0, .slice none 0 0, .int .i64 0, .int .i64 0, .slice none 0 0, .slice none 0 0] 34))) := HB3.out.alloc HB3.out.size _; have HA3 : Hid (Arr (fun b => b < w3.heap.size) w3 a3 (idTo nI)) := own_arr_lt ho3; clear ho3 hb3)
      | (go_at_call 39; refine (HS0.out _ (HUP.out _ HBA.out)).mono ?_; rintro e w3 ⟨a3, c3, rfl, ho3, hb3⟩; have HB3 : Hid (Below w2.heap.size w2 w3) := HBA.out.trans (hb3.mono HBA.out.size); have HZ3 : Hid (Row w3 w2.heap.size 34 zeroTL.toArray ∧ w2.heap.size < w3.heap.size) := ⟨HRA.out.keep (hb3.block _ HRA.out.lt), Nat.lt_of_lt_of_le HRA.out.lt hb3.size⟩; have HA3 : Hid (Arr (fun b => b < w3.heap.size) w3 a3 (idTo nI)) := own_arr_lt ho3; clear ho3 hb3)
      | (go_at_call 42; refine (HCU.out w3 _ _ (HUP.out _ HB3.out) HA3.out).mono ?_; rintro e w4 ⟨C, hC1, hC2, rfl, hb4, ho4⟩; have HZ4 : Hid (Row w4 w2.heap.size 34 zeroTL.toArray) := HZ3.out.1.keep (hb4.block _ HZ3.out.2); have HC1 := Lib.hid hC1; have HC2 := Lib.hid hC2; have HB4 : Hid (Below w2.heap.size w2 w4) := HB3.out.trans (hb4.mono HB3.out.size); have HO4 := Lib.hid ho4; have HBC := Lib.hid hb4; clear hC1 hC2 hb4 ho4)
      | (go_at_call 42; refine (HCU.out w3 _ _ (HUP.out _ HB3.out) HA3.out).mono ?_; rintro e w4 ⟨C, hC1, hC2, rfl, hb4, ho4⟩; have HC1 := Lib.hid hC1; have HC2 := Lib.hid hC2; have HB4 : Hid (Below w2.heap.size w2 w4) := HB3.out.trans (hb4.mono HB3.out.size); have HB4A : Hid (Below w2.heap.size w2 (w4.alloc (.cells #[.int .i64 0, .int .i64 0, .int .i64 0, .slice none 0 0, .slice none 0 0, .int .i64 0, .int .i64 0, .slice none 0 0, .slice none 0 0, .int .i64 0, .int .i64 0, .slice none 0 0, .slice none 0 0] 34))) := HB4.out.alloc HB4.out.size _; have HR4A : Hid (Row (w4.alloc (.cells #[.int .i64 0, .int .i64 0, .int .i64 0, .slice none 0 0, .slice none 0 0, .int .i64 0, .int .i64 0, .slice none 0 0, .slice none 0 0, .int .i64 0, .int .i64 0, .slice none 0 0, .slice none 0 0] 34)) w4.heap.size 34 zeroTL.toArray) := row_new _ _ _; have HO4 := Lib.hid ho4; have HBC := Lib.hid hb4; clear hC1 hC2 hb4 ho4)
      | (go_at_call 42; refine (HCU.out (w3.alloc (.cells #[.int .i64 0, .int .i64 0, .int .i64 0, .slice none 0 0, .slice none 0 0, .int .i64 0, .int .i64 0, .slice none 0 0, .slice none 0 0, .int .i64 0, .int .i64 0, .slice none 0 0, .slice none 0 0] 34)) _ _ (HUP.out _ HB3A.out) (Arr.lifted HA3.out #[.int .i64 0, .int .i64 0, .int .i64 0, .slice none 0 0, .slice none 0 0, .int .i64 0, .int .i64 0, .slice none 0 0, .slice none 0 0, .int .i64 0, .int .i64 0, .slice none 0 0, .slice none 0 0] 34)).mono ?_; rintro e w4 ⟨C, hC1, hC2, rfl, hb4, ho4⟩; have HZ4 : Hid (Row w4 w3.heap.size 34 zeroTL.toArray) := (row_new w3 #[.int .i64 0, .int .i64 0, .int .i64 0, .slice none 0 0, .slice none 0 0, .int .i64 0, .int .i64 0, .slice none 0 0, .slice none 0 0, .int .i64 0, .int .i64 0, .slice none 0 0, .slice none 0 0] 34).keep (hb4.block _ (by simp)); have HC1 := Lib.hid hC1; have HC2 := Lib.hid hC2; have HB4 : Hid (Below w2.heap.size w2 w4) := HB3A.out.trans (hb4.mono HB3A.out.size); have HO4 := Lib.hid ho4; have HBC := Lib.hid hb4; clear hC1 hC2 hb4 ho4)
      | (rw [stRow_run HZ4.out (by rw [HC1.out]; rfl) HC2.out])
      | (rw [stRow_run HR4A.out (by rw [HC1.out]; rfl) HC2.out]))
    all_goals go_wp2_with fail
    all_goals go_meet
    all_goals first
     | (obtain ⟨vI, vE, y0, y1, y2, y3, z0, z1, z2, z3, h⟩ := HLF.out w3 w4 ((w4.alloc (.cells #[.int .i64 0, .int .i64 0, .int .i64 0, .slice none 0 0, .slice none 0 0, .int .i64 0, .int .i64 0, .slice none 0 0, .slice none 0 0, .int .i64 0, .int .i64 0, .slice none 0 0, .slice none 0 0] 34)).setRow w4.heap.size C) w4.heap.size C HB3.out HBC.out HO4.out (setRow_heap _ _ _ _ _ _ HR4A.out) (fun k e1 e2 => (setRow_other _ _ _ _ e2).trans (Below.heap_alloc _ _ _ e1)) (below_setRow HB4A.out HB4.out.size _) (by simp [World.setRow]) HB4.out.size (.inr (Nat.le_refl _)); exact ⟨_, vI, vE, y0, y1, y2, y3, z0, z1, z2, z3, rfl, h⟩)
     | (obtain ⟨vI, vE, y0, y1, y2, y3, z0, z1, z2, z3, h⟩ := HLF.out w3 w4 (w4.setRow w2.heap.size C) w2.heap.size C HB3.out HBC.out HO4.out (setRow_heap _ _ _ _ _ _ HZ4.out) (fun k e1 e2 => setRow_other _ _ _ _ e2) (below_setRow HB4.out (Nat.le_refl _) _) (by simp [World.setRow]) (Nat.le_refl _) (.inl HZ3.out.2); exact ⟨_, vI, vE, y0, y1, y2, y3, z0, z1, z2, z3, rfl, h⟩)
     | (obtain ⟨vI, vE, y0, y1, y2, y3, z0, z1, z2, z3, h⟩ := HLF.out (w3.alloc (.cells #[.int .i64 0, .int .i64 0, .int .i64 0, .slice none 0 0, .slice none 0 0, .int .i64 0, .int .i64 0, .slice none 0 0, .slice none 0 0, .int .i64 0, .int .i64 0, .slice none 0 0, .slice none 0 0] 34)) w4 (w4.setRow w3.heap.size C) w3.heap.size C HB3A.out HBC.out HO4.out (setRow_heap _ _ _ _ _ _ HZ4.out) (fun k e1 e2 => setRow_other _ _ _ _ e2) (below_setRow HB4.out HB3.out.size _) (by simp [World.setRow]) HB3.out.size (.inl (by simp)); exact ⟨_, vI, vE, y0, y1, y2, y3, z0, z1, z2, z3, rfl, h⟩)
  case rest =>
   obtain ⟨go, vI0, vE0, u0, u1, u2, u3, v0, v1, v2, v3, rfl, hpw⟩ := hcut
   obtain ⟨wq, hwq⟩ : ∃ wq, wq = wc := ⟨_, rfl⟩
   rw [← hwq] at hpw ⊢
   clear hwq
   have HPW := Lib.hid hpw
   have HBQ := Lib.hid hpw.below
   obtain ⟨g0, g1, g2, g3, g4, g5, g6, g7, g8, g9, g10, g11, g12, gl⟩ := HCELL.out wq (HUP.out _ hpw.below)
   obtain ⟨gn0, gn1⟩ := HNC.out wq hpw.below
   clear hpw HCU
   by_cases hnot : peelNot t = true
   · as_aux_lemma =>
      have HRT9 : Hid (peelT t = t) := by show _ = _; unfold peelT; rw [if_pos hnot]
      have hcs : 0 < t.Loop ∨ (¬ 0 < t.Loop ∧ nI = 0) ∨ (¬ 0 < t.Loop ∧ ¬ nI = 0 ∧ 150 < nI) ∨ (¬ 0 < t.Loop ∧ ¬ nI = 0 ∧ ¬ 150 < nI ∧ 100 < nE) := by
       unfold peelNot at hnot
       rw [HLI.out, HLE.out] at hnot
       simp only [Bool.or_eq_true, decide_eq_true_eq] at hnot
       omega
      have hrep := HPW.out.rep HFA.out.1 HFA.out.2 (by have := HR.out.loop; have := HR.out.few; unfold I64; omega)
      obtain ⟨C, hC⟩ : ∃ C : Array Value, C = #[.int .i64 t.Fn, .int .i64 t.At, .int .i64 t.Loop, vI0, vE0, u0, u1, u2, u3, v0, v1, v2, v3] := ⟨_, rfl⟩
      have HROW : Hid (Row wq go 34 C) := by show Row _ _ _ _; rw [hC]; exact HPW.out.row
      have hrep2 : Rep.cells (fun k => k < wq.heap.size ∧ (k < 0 ∨ w2.heap.size ≤ k)) wq C.toList t := by rw [hC]; exact hrep
      have hsC : C.size = 13 := rep_size hrep2
      have HC1 := Lib.hid (one_of hrep2)
      have HREP := Lib.hid hrep2
      have HZR := Lib.hid (HRT.out wq (HUP.out _ HBQ.out)).2
      have HBW : Hid (Below w.heap.size w wq) := HB1.out.trans ((HUP.out _ HBQ.out).mono HB1.out.size)
      clear hrep hrep2 hC hnot HPW
      rcases hcs with h1 | ⟨h1, h2⟩ | ⟨h1, h2, h3⟩ | ⟨h1, h2, h3, h4⟩
      case' inl =>
       have e1 : decide (0 < t.Loop) = true := decide_eq_true h1
       have e2 := e1
      case' inr.inl =>
       have e1 : decide (0 < t.Loop) = false := decide_eq_false h1
       have e2 : ((nI : Int) == 0) = true := by rw [beq_iff_eq]; omega
       have e3 : decide ((nI : Int) = 0) = true := decide_eq_true (by omega)
       have e4 : decide (nI = 0) = true := decide_eq_true h2
       clear h1 h2
      case' inr.inr.inl =>
       have e1 : decide (0 < t.Loop) = false := decide_eq_false h1
       have e2 : ((nI : Int) == 0) = false := by rw [beq_eq_false_iff_ne]; omega
       have e3 : decide ((150 : Int) < (nI : Int)) = true := decide_eq_true (by omega)
       have e4 : decide (150 < nI) = true := decide_eq_true h3
       clear h1 h2 h3
      case' inr.inr.inr =>
       have e1 : decide (0 < t.Loop) = false := decide_eq_false h1
       have e2 : ((nI : Int) == 0) = false := by rw [beq_eq_false_iff_ne]; omega
       have e3 : decide ((150 : Int) < (nI : Int)) = false := decide_eq_false (by omega)
       have e4 : decide (150 < nI) = false := decide_eq_false h3
       have e5 : decide ((100 : Int) < (nE : Int)) = true := decide_eq_true (by omega)
       have e6 : decide (100 < nE) = true := decide_eq_true h4
       clear h1 h2 h3 h4
      all_goals
       go_wp2_with (first
        | (with_reducible refine ldT rfl rfl rfl HROW.out hsC ?_)
        | (with_reducible refine stT (OLD := zeroTL.toArray) (C := C) rfl rfl rfl rfl HZR.out hsC rfl HC1.out ?_))
       have HYR : Hid (Row (wq.setRow (w.heap.size + 1) C) (w.heap.size + 1) 34 C) := setRow_heap _ _ _ _ _ _ HZR.out
       have hss : (wq.setRow (w.heap.size + 1) C).heap.size = wq.heap.size := by simp [World.setRow]
       (try simp only [Exit.inBlock, Exit.then])
       have hz := HGN.out
       refine bodyPost_ret (results_cell_row rfl _ _ _ _ _ _ _ rfl HYR.out Tryd.underlying34 rfl (infoT hsC)) rfl ?_
       rw [HRT9.out]
       unfold RefOut
       refine ⟨C, hsC, HC1.out, rfl, ?_, below_setRow HBW.out (by omega) _⟩
       exact Rep.mono (fun j hj => ⟨by have := hj.2; omega, by rw [hss]; exact hj.1⟩) (Rep.keep (fun j hj => setRow_other _ _ _ _ (by have := hj.2; omega)) HREP.out)
   · have HRT9 : Hid (peelT t = cutT (twiceT t) (peelTo t)) := by show _ = _; unfold peelT; rw [if_neg hnot]
     obtain ⟨h1, h2, h3, h4⟩ : ¬ 0 < t.Loop ∧ ¬ nI = 0 ∧ ¬ 150 < nI ∧ ¬ 100 < nE := by
      unfold peelNot at hnot
      rw [HLI.out, HLE.out] at hnot
      simp only [Bool.or_eq_true, decide_eq_true_eq] at hnot
      omega
     have e1 : decide (0 < t.Loop) = false := decide_eq_false h1
     have e2 : ((nI : Int) == 0) = false := by rw [beq_eq_false_iff_ne]; omega
     have e3 : decide ((150 : Int) < (nI : Int)) = false := decide_eq_false (by omega)
     have e4 : decide (150 < nI) = false := decide_eq_false h3
     have e5 : decide ((100 : Int) < (nE : Int)) = false := decide_eq_false (by omega)
     have e6 : decide (100 < nE) = false := decide_eq_false h4
     clear hnot
     go_upto_region 8 with (go_at_call 39; (with_reducible refine (HS0.out _ (HUP.out _ HBQ.out)).mono ?_); rintro e w6 ⟨a6, c6, rfl, ho6, hb6⟩; have HO6 := Lib.hid ho6; have HB6 := Lib.hid hb6; clear ho6 hb6)
     clear e1 e2 e3 e4 e5 e6 g0 g1 g2 g3 g4 g5 g6 g7 g8 g9 g10 g11 g12 gl gn0 gn1
     have HUQ : Hid (∀ W, Below wq.heap.size wq W → Below w2.heap.size w2 W) := fun W hb => HBQ.out.trans (hb.mono HBQ.out.size)
     have HTO0 : Hid (Own (fun _ => False) w6 wq.heap.size 3 (.slice a6 nI c6) (toL t nI 0)) := by show Own _ _ _ _ _ _; rw [toL_zero]; exact HO6.out
     obtain ⟨-, -, -, t3, -, -, -, -, -, -, -, -, -, lt⟩ := HCELL.out w6 (HUP.out _ (HUQ.out _ HB6.out))
     go_wp2_with fail
     clear t3 lt HO6
     go_loopw [9, 60] (fun s i W => ∃ (k : Nat) (v : Value), v = s ∧ k ≤ nI ∧ i = .int .i64 (k : Int) ∧ Own (fun _ => False) W wq.heap.size 3 v (toL t nI k) ∧ Below wq.heap.size wq W) (fun _ i _ => nI - (intOf i).toNat)
     case atStart => exact ⟨0, _, rfl, Nat.zero_le _, rfl, HTO0.out, HB6.out⟩
     case round =>
      clear HTO0 HB6
      obtain ⟨k, v, rfl, hk, rfl, hto, hbk⟩ := hrel
      by_cases hlt : k < nI
      · as_aux_lemma =>
         obtain ⟨x, hx⟩ : ∃ x, t.Ins[k]? = some x := ⟨_, List.getElem?_eq_getElem (by rw [HLI.out]; exact hlt)⟩
         obtain ⟨bi, oi, haI, hSi, i0, i1, i2, i3, i4, i5, i6, i7, j0, j1, j2, j3, j4, j5, j6, j7⟩ := api_TIns_elem (HAL.out wr (HUP.out _ (HUQ.out _ hbk))).ins hx
         have hbi : bi < wr.heap.size := by have := HDOM.out bi hSi; have := HZ1.out; have := (HUP.out _ (HUQ.out _ hbk)).size; omega
         subst haI
         have hki : (k : Int) < (nI : Int) := by omega
         have HX := Lib.hid hx
         have HX5 : Hid (Row (wr.alloc (.cells #[.int .i64 x.Op, .int .i64 x.A, .int .i64 x.B, .int .i64 x.C, .int .i64 x.N, .int .i64 x.Exit, .int .i64 x.K.Kind, .int .i64 x.K.N] 43)) wr.heap.size 43 #[.int .i64 x.Op, .int .i64 x.A, .int .i64 x.B, .int .i64 x.C, .int .i64 x.N, .int .i64 x.Exit, .int .i64 x.K.Kind, .int .i64 x.K.N]) := row_new _ _ _
         have HB5 : Hid (Below wr.heap.size wr (wr.alloc (.cells #[.int .i64 x.Op, .int .i64 x.A, .int .i64 x.B, .int .i64 x.C, .int .i64 x.N, .int .i64 x.Exit, .int .i64 x.K.Kind, .int .i64 x.K.N] 43))) := (Below.refl _ _).alloc (Nat.le_refl _) _
         have HTO5 := Lib.hid (hto.below HB5.out (fun _ h => h.elim))
         have HBK5 : Hid (Below wq.heap.size wq (wr.alloc (.cells #[.int .i64 x.Op, .int .i64 x.A, .int .i64 x.B, .int .i64 x.C, .int .i64 x.N, .int .i64 x.Exit, .int .i64 x.K.Kind, .int .i64 x.K.N] 43))) := hbk.trans (HB5.out.mono hbk.size)
         have HA1 : Hid (∀ W', Calls Tryd.prog 48 #[.agg #[.int .i64 x.Op, .int .i64 x.A, .int .i64 x.B, .int .i64 x.C, .int .i64 x.N, .int .i64 x.Exit, .int .i64 x.K.Kind, .int .i64 x.K.N]] W' fun e w' => (∃ a c, e = .returned (.slice a (asksOf x).length c) ∧ (a = none → c = 0) ∧ Arr (Fresh W' w') w' a (asksOf x)) ∧ Below W'.heap.size W' w') := fun W' => rasks_any (fun z hz => by simp only [List.mem_cons, List.not_mem_nil, or_false] at hz; rcases hz with rfl | rfl | rfl <;> assumption)
         clear hx hto hbk hSi j0 j1 j2 j3 j4 j5 j6 j7
         go_upto_region 12 with fail
         obtain ⟨gx, hgx⟩ : ∃ gx, gx = wr.heap.size := ⟨_, rfl⟩
         generalize wr.alloc (.cells #[.int .i64 x.Op, .int .i64 x.A, .int .i64 x.B, .int .i64 x.C, .int .i64 x.N, .int .i64 x.Exit, .int .i64 x.K.Kind, .int .i64 x.K.N] 43) = w5 at HX5 HTO5 HBK5 ⊢
         rw [← hgx] at HX5 ⊢
         clear i0 i1 i2 i3 i4 i5 i6 i7 hbi hgx HB5
         obtain ⟨n, hn⟩ : ∃ n, n = (asksOf x).length := ⟨_, rfl⟩
         have hn3 : n ≤ 3 := by obtain ⟨m, h1, -, h2, h3⟩ := Go.Proofs.YtekofpigmggbbaaDoor.chk.asks_nat x; omega
         rw [← hn] at HA1
         have HN := Lib.hid hn
         have c0 := HX5.out.cell (j := 0) rfl; have c1 := HX5.out.cell (j := 1) rfl; have c2 := HX5.out.cell (j := 2) rfl; have c3 := HX5.out.cell (j := 3) rfl; have c4 := HX5.out.cell (j := 4) rfl; have c5 := HX5.out.cell (j := 5) rfl; have c6 := HX5.out.cell (j := 6) rfl; have c7 := HX5.out.cell (j := 7) rfl
         have lx := HX5.out.lt
         clear hn
         go_wp2_with (go_at_call 48; (with_reducible refine (HA1.out _).mono ?_); rintro e w8 ⟨⟨a9, c9, rfl, -, har⟩, hb8⟩; have HB8 := Lib.hid hb8; have HAR := Lib.hid har; clear har hb8)
         have HX8 : Hid (Row w8 gx 43 #[.int .i64 x.Op, .int .i64 x.A, .int .i64 x.B, .int .i64 x.C, .int .i64 x.N, .int .i64 x.Exit, .int .i64 x.K.Kind, .int .i64 x.K.N]) := HX5.out.keep (HB8.out.block _ HX5.out.lt)
         have HTO8 := Lib.hid (HTO5.out.below HB8.out (fun _ h => h.elim))
         have HBK8 : Hid (Below wq.heap.size wq w8) := HBK5.out.trans (HB8.out.mono HBK5.out.size)
         clear HX5 HTO5 HBK5 HA1 c0 c1 c2 c3 c4 c5 c6 c7 lx
         obtain ⟨q, hq⟩ : ∃ q : Int → Bool, q = fun v => ((firmTo t k)[v.toNat]?).getD false := ⟨_, rfl⟩
         have HQ := Lib.hid hq
         clear hq
         go_loopw [12, 68] (fun s i W => ∃ j : Nat, j ≤ n ∧ i = .int .i64 (j : Int) ∧ s = .bool (((asksOf x).take j).all q) ∧ W = w8) (fun _ i _ => n - (intOf i).toNat)
         case atStart => exact ⟨0, Nat.zero_le _, rfl, rfl, rfl⟩
         case round =>
          obtain ⟨j, hj, rfl, rfl, rfl⟩ := hrel
          by_cases hlt2 : j < n
          · as_aux_lemma =>
             obtain ⟨yy, hy⟩ : ∃ z, (asksOf x)[j]? = some z := ⟨_, List.getElem?_eq_getElem (by rw [← HN.out]; exact hlt2)⟩
             obtain ⟨u, rfl, huk, z, hz, hzi, htest⟩ := toL_test HR.out HX.out (List.mem_of_getElem? hy)
             obtain ⟨bk, ok, cs, rfl, hbb, ⟨rfl, -⟩, f1⟩ := HAR.out.at hy
             have y0 : wr.cell? ⟨bk, ok + j, none⟩ = some (.int .i64 (u : Int)) := by simpa [show Rep.sz Int = 1 from rfl] using f1 0 Nat.zero_lt_one
             have y1 : bk < wr.heap.size := hbb.2
             obtain ⟨ta, tc, hv, -, -, harr⟩ := HTO8.out.arr
             rw [HLI.out] at hz
             obtain ⟨bt, ot, cs2, rfl, hb2, ⟨rfl, -⟩, f2⟩ := harr.at hz
             have z0 : wr.cell? ⟨bt, ot + (nI + u), none⟩ = some (.int .i64 z) := by simpa [show Rep.sz Int = 1 from rfl] using f2 0 Nat.zero_lt_one
             have z1 : bt < wr.heap.size := hb2.elim False.elim (·.2)
             rw [toL_len] at hv
             subst hv
             obtain ⟨gn0, gn1⟩ := HNC.out wr (HUQ.out _ HBK8.out)
             have hwe : IntKind.i64.wrap ((nI : Int) + (u : Int)) = ((nI + u : Nat) : Int) := by rw [IntWalk.i64_in _ (by omega)]; omega
             have hin : ((nI + u : Nat) : Int) < ((nI + k : Nat) : Int) := by omega
             have hjn : (j : Int) < (n : Int) := by omega
             obtain ⟨b, hb⟩ : ∃ b, b = ((asksOf x).take j).all q := ⟨_, rfl⟩
             obtain ⟨tb, htb⟩ : ∃ tb, tb = (z == (u : Int)) := ⟨_, rfl⟩
             have HSU : Hid (((asksOf x).take (j + 1)).all q = (b && tb)) := by
              show _ = _
              rw [List.take_add_one, hy, List.all_append, ← hb]
              have e : q (u : Int) = tb := by rw [HQ.out, htb, htest]
              simp [e]
             rw [← hb]
             clear hy hz hzi htest hbb f1 f2 hb2 harr hb
             cases b with
             | false =>
               go_wp2_with fail
               go_roundw
               case rel => exact ⟨j + 1, by omega, by go_num, by rw [HSU.out]; rfl, (by first | rfl | trivial)⟩
               case measure => simp [intOf]; omega
             | true =>
               cases tb with
               | false =>
                 have q1 : (z == (u : Int)) = false := htb.symm
                 have q2 : decide (z = (u : Int)) = false := by rw [decide_eq_false_iff_not]; simpa using q1
                 clear htb
                 go_wp2_with fail
                 go_roundw
                 case rel => exact ⟨j + 1, by omega, by go_num, by rw [HSU.out]; rfl, (by first | rfl | trivial)⟩
                 case measure => simp [intOf]; omega
               | true =>
                 obtain rfl : z = (u : Int) := by simpa using htb.symm
                 clear htb
                 go_wp2_with fail
                 go_roundw
                 case rel => exact ⟨j + 1, by omega, by go_num, by rw [HSU.out]; rfl, (by first | rfl | trivial)⟩
                 case measure => simp [intOf]; omega
          · obtain rfl : n = j := by omega
            obtain ⟨A, hA⟩ : ∃ A, A = ((asksOf x).take n).all q := ⟨_, rfl⟩
            have HLO : Hid (A = !looseB t k x) := by
             show _ = _
             rw [hA, HN.out, List.take_length, HQ.out]
             unfold looseB
             simp [List.all_eq_not_any_not]
            rw [← hA]
            obtain ⟨f, hf⟩ : ∃ f, f = firmB t x := ⟨_, rfl⟩
            have HFB := Lib.hid hf
            have HP8 : Hid (Own (fun _ => False) wr wq.heap.size 3 v (toL t nI k) ∧ Row wr gx 43 #[.int .i64 x.Op, .int .i64 x.A, .int .i64 x.B, .int .i64 x.C, .int .i64 x.N, .int .i64 x.Exit, .int .i64 x.K.Kind, .int .i64 x.K.N] ∧ Below wq.heap.size wq wr) := ⟨HTO8.out, HX8.out, HBK8.out⟩
            have c0 := HX8.out.cell (j := 0) rfl
            have lx := HX8.out.lt
            clear hA hf HQ HAR HB8 HTO8 HX8 HBK8 hlt2
            go_upto_block 4 with fail
            clear c0 lx
            go_cut [12] (fun s W => s = .bool (f && A) ∧ Own (fun _ => False) W wq.heap.size 3 v (toL t nI k) ∧ Row W gx 43 #[.int .i64 x.Op, .int .i64 x.A, .int .i64 x.B, .int .i64 x.C, .int .i64 x.N, .int .i64 x.Exit, .int .i64 x.K.Kind, .int .i64 x.K.N] ∧ Below wq.heap.size wq W)
            case first =>
             obtain ⟨op, hop⟩ : ∃ op, op = x.Op := ⟨_, rfl⟩
             have c4 := HP8.out.2.1.cell (j := 4) rfl
             have lx := HP8.out.2.1.lt
             have HOP := Lib.hid hop
             have HCN : Hid (∀ W l n a c, Below wq.heap.size wq W → l.length = n → Arr (fun b => b < W.heap.size) W a l → Calls Tryd.prog 54 #[.slice a n c, .pointer (some ⟨w.heap.size, 0, none⟩)] W fun e w' => (∃ kk : Nat, e = .returned (.int .i64 (kk : Int)) ∧ (kk = 0 ↔ (t.Ins.any fun y => decide (y.Op ∈ l)) = false)) ∧ Below W.heap.size W w') := fun W l n a c hb hl har => by
              have hb1 := HUP.out _ (HUQ.out _ hb)
              refine (count_any (S := S) (R := fun b => b < W.heap.size) (c := c) (HRT.out W hb1).1 (HTR.out W hb1) (fun b hb' => by have := HDOM.out b hb'; have := HZ1.out; have := hb1.size; omega) hl har (fun _ h => h) HR.out.few).mono ?_
              rintro e w' ⟨⟨kk, rfl, -, h3⟩, hb'⟩
              exact ⟨⟨kk, rfl, h3⟩, hb'⟩
             have HKP : Hid (∀ W, Below wr.heap.size wr W → Own (fun _ => False) W wq.heap.size 3 v (toL t nI k) ∧ Row W gx 43 #[.int .i64 x.Op, .int .i64 x.A, .int .i64 x.B, .int .i64 x.C, .int .i64 x.N, .int .i64 x.Exit, .int .i64 x.K.Kind, .int .i64 x.K.N] ∧ Below wq.heap.size wq W) := fun W hb => ⟨HP8.out.1.below hb (fun _ h => h.elim), HP8.out.2.1.keep (hb.block _ HP8.out.2.1.lt), HP8.out.2.2.trans (hb.mono HP8.out.2.2.size)⟩
             by_cases h2 : op = 2
             · subst h2
               as_aux_lemma =>
                have a1 : (x.Op == 1) = false := by rw [← hop]; rfl
                have b1 : decide (x.Op = 1) = false := by rw [← hop]; rfl
                have a9 : (x.Op == 9) = false := by rw [← hop]; rfl
                have b9 : decide (x.Op = 9) = false := by rw [← hop]; rfl
                have a10 : (x.Op == 10) = false := by rw [← hop]; rfl
                have b10 : decide (x.Op = 10) = false := by rw [← hop]; rfl
                have a13 : (x.Op == 13) = false := by rw [← hop]; rfl
                have b13 : decide (x.Op = 13) = false := by rw [← hop]; rfl
                have a15 : (x.Op == 15) = false := by rw [← hop]; rfl
                have b15 : decide (x.Op = 15) = false := by rw [← hop]; rfl
                have a2 : (x.Op == 2) = true := by rw [← hop]; rfl
                have b2 : decide (x.Op = 2) = true := by rw [← hop]; rfl
                obtain rfl : f = true := by rw [HFB.out]; unfold firmB; rw [← hop]; rfl
                clear hop
                go_wp2_with fail
                go_meet
                exact ⟨by simp, HP8.out.1, HP8.out.2.1, HP8.out.2.2⟩
             by_cases h3 : op = 3
             · subst h3
               as_aux_lemma =>
                have a1 : (x.Op == 1) = false := by rw [← hop]; rfl
                have b1 : decide (x.Op = 1) = false := by rw [← hop]; rfl
                have a9 : (x.Op == 9) = false := by rw [← hop]; rfl
                have b9 : decide (x.Op = 9) = false := by rw [← hop]; rfl
                have a10 : (x.Op == 10) = false := by rw [← hop]; rfl
                have b10 : decide (x.Op = 10) = false := by rw [← hop]; rfl
                have a13 : (x.Op == 13) = false := by rw [← hop]; rfl
                have b13 : decide (x.Op = 13) = false := by rw [← hop]; rfl
                have a15 : (x.Op == 15) = false := by rw [← hop]; rfl
                have b15 : decide (x.Op = 15) = false := by rw [← hop]; rfl
                have a2 : (x.Op == 2) = false := by rw [← hop]; rfl
                have b2 : decide (x.Op = 2) = false := by rw [← hop]; rfl
                have a3 : (x.Op == 3) = true := by rw [← hop]; rfl
                have b3 : decide (x.Op = 3) = true := by rw [← hop]; rfl
                obtain rfl : f = true := by rw [HFB.out]; unfold firmB; rw [← hop]; rfl
                clear hop
                go_wp2_with fail
                go_meet
                exact ⟨by simp, HP8.out.1, HP8.out.2.1, HP8.out.2.2⟩
             by_cases h4 : op = 4
             · subst h4
               as_aux_lemma =>
                have a1 : (x.Op == 1) = false := by rw [← hop]; rfl
                have b1 : decide (x.Op = 1) = false := by rw [← hop]; rfl
                have a9 : (x.Op == 9) = false := by rw [← hop]; rfl
                have b9 : decide (x.Op = 9) = false := by rw [← hop]; rfl
                have a10 : (x.Op == 10) = false := by rw [← hop]; rfl
                have b10 : decide (x.Op = 10) = false := by rw [← hop]; rfl
                have a13 : (x.Op == 13) = false := by rw [← hop]; rfl
                have b13 : decide (x.Op = 13) = false := by rw [← hop]; rfl
                have a15 : (x.Op == 15) = false := by rw [← hop]; rfl
                have b15 : decide (x.Op = 15) = false := by rw [← hop]; rfl
                have a2 : (x.Op == 2) = false := by rw [← hop]; rfl
                have b2 : decide (x.Op = 2) = false := by rw [← hop]; rfl
                have a3 : (x.Op == 3) = false := by rw [← hop]; rfl
                have b3 : decide (x.Op = 3) = false := by rw [← hop]; rfl
                have a4 : (x.Op == 4) = true := by rw [← hop]; rfl
                have b4 : decide (x.Op = 4) = true := by rw [← hop]; rfl
                obtain rfl : f = true := by rw [HFB.out]; unfold firmB; rw [← hop]; rfl
                clear hop
                go_wp2_with fail
                go_meet
                exact ⟨by simp, HP8.out.1, HP8.out.2.1, HP8.out.2.2⟩
             by_cases h5 : op = 5
             · subst h5
               as_aux_lemma =>
                have a1 : (x.Op == 1) = false := by rw [← hop]; rfl
                have b1 : decide (x.Op = 1) = false := by rw [← hop]; rfl
                have a9 : (x.Op == 9) = false := by rw [← hop]; rfl
                have b9 : decide (x.Op = 9) = false := by rw [← hop]; rfl
                have a10 : (x.Op == 10) = false := by rw [← hop]; rfl
                have b10 : decide (x.Op = 10) = false := by rw [← hop]; rfl
                have a13 : (x.Op == 13) = false := by rw [← hop]; rfl
                have b13 : decide (x.Op = 13) = false := by rw [← hop]; rfl
                have a15 : (x.Op == 15) = false := by rw [← hop]; rfl
                have b15 : decide (x.Op = 15) = false := by rw [← hop]; rfl
                have a2 : (x.Op == 2) = false := by rw [← hop]; rfl
                have b2 : decide (x.Op = 2) = false := by rw [← hop]; rfl
                have a3 : (x.Op == 3) = false := by rw [← hop]; rfl
                have b3 : decide (x.Op = 3) = false := by rw [← hop]; rfl
                have a4 : (x.Op == 4) = false := by rw [← hop]; rfl
                have b4 : decide (x.Op = 4) = false := by rw [← hop]; rfl
                have a5 : (x.Op == 5) = true := by rw [← hop]; rfl
                have b5 : decide (x.Op = 5) = true := by rw [← hop]; rfl
                obtain rfl : f = true := by rw [HFB.out]; unfold firmB; rw [← hop]; rfl
                clear hop
                go_wp2_with fail
                go_meet
                exact ⟨by simp, HP8.out.1, HP8.out.2.1, HP8.out.2.2⟩
             by_cases h6 : op = 6
             · subst h6
               as_aux_lemma =>
                have a1 : (x.Op == 1) = false := by rw [← hop]; rfl
                have b1 : decide (x.Op = 1) = false := by rw [← hop]; rfl
                have a9 : (x.Op == 9) = false := by rw [← hop]; rfl
                have b9 : decide (x.Op = 9) = false := by rw [← hop]; rfl
                have a10 : (x.Op == 10) = false := by rw [← hop]; rfl
                have b10 : decide (x.Op = 10) = false := by rw [← hop]; rfl
                have a13 : (x.Op == 13) = false := by rw [← hop]; rfl
                have b13 : decide (x.Op = 13) = false := by rw [← hop]; rfl
                have a15 : (x.Op == 15) = false := by rw [← hop]; rfl
                have b15 : decide (x.Op = 15) = false := by rw [← hop]; rfl
                have a2 : (x.Op == 2) = false := by rw [← hop]; rfl
                have b2 : decide (x.Op = 2) = false := by rw [← hop]; rfl
                have a3 : (x.Op == 3) = false := by rw [← hop]; rfl
                have b3 : decide (x.Op = 3) = false := by rw [← hop]; rfl
                have a4 : (x.Op == 4) = false := by rw [← hop]; rfl
                have b4 : decide (x.Op = 4) = false := by rw [← hop]; rfl
                have a5 : (x.Op == 5) = false := by rw [← hop]; rfl
                have b5 : decide (x.Op = 5) = false := by rw [← hop]; rfl
                have a6 : (x.Op == 6) = true := by rw [← hop]; rfl
                have b6 : decide (x.Op = 6) = true := by rw [← hop]; rfl
                obtain rfl : f = true := by rw [HFB.out]; unfold firmB; rw [← hop]; rfl
                clear hop
                go_wp2_with fail
                go_meet
                exact ⟨by simp, HP8.out.1, HP8.out.2.1, HP8.out.2.2⟩
             by_cases h7 : op = 7
             · subst h7
               as_aux_lemma =>
                have a1 : (x.Op == 1) = false := by rw [← hop]; rfl
                have b1 : decide (x.Op = 1) = false := by rw [← hop]; rfl
                have a9 : (x.Op == 9) = false := by rw [← hop]; rfl
                have b9 : decide (x.Op = 9) = false := by rw [← hop]; rfl
                have a10 : (x.Op == 10) = false := by rw [← hop]; rfl
                have b10 : decide (x.Op = 10) = false := by rw [← hop]; rfl
                have a13 : (x.Op == 13) = false := by rw [← hop]; rfl
                have b13 : decide (x.Op = 13) = false := by rw [← hop]; rfl
                have a15 : (x.Op == 15) = false := by rw [← hop]; rfl
                have b15 : decide (x.Op = 15) = false := by rw [← hop]; rfl
                have a2 : (x.Op == 2) = false := by rw [← hop]; rfl
                have b2 : decide (x.Op = 2) = false := by rw [← hop]; rfl
                have a3 : (x.Op == 3) = false := by rw [← hop]; rfl
                have b3 : decide (x.Op = 3) = false := by rw [← hop]; rfl
                have a4 : (x.Op == 4) = false := by rw [← hop]; rfl
                have b4 : decide (x.Op = 4) = false := by rw [← hop]; rfl
                have a5 : (x.Op == 5) = false := by rw [← hop]; rfl
                have b5 : decide (x.Op = 5) = false := by rw [← hop]; rfl
                have a6 : (x.Op == 6) = false := by rw [← hop]; rfl
                have b6 : decide (x.Op = 6) = false := by rw [← hop]; rfl
                have a7 : (x.Op == 7) = true := by rw [← hop]; rfl
                have b7 : decide (x.Op = 7) = true := by rw [← hop]; rfl
                obtain rfl : f = true := by rw [HFB.out]; unfold firmB; rw [← hop]; rfl
                clear hop
                go_wp2_with fail
                go_meet
                exact ⟨by simp, HP8.out.1, HP8.out.2.1, HP8.out.2.2⟩
             by_cases h8 : op = 8
             · subst h8
               as_aux_lemma =>
                have a1 : (x.Op == 1) = false := by rw [← hop]; rfl
                have b1 : decide (x.Op = 1) = false := by rw [← hop]; rfl
                have a9 : (x.Op == 9) = false := by rw [← hop]; rfl
                have b9 : decide (x.Op = 9) = false := by rw [← hop]; rfl
                have a10 : (x.Op == 10) = false := by rw [← hop]; rfl
                have b10 : decide (x.Op = 10) = false := by rw [← hop]; rfl
                have a13 : (x.Op == 13) = false := by rw [← hop]; rfl
                have b13 : decide (x.Op = 13) = false := by rw [← hop]; rfl
                have a15 : (x.Op == 15) = false := by rw [← hop]; rfl
                have b15 : decide (x.Op = 15) = false := by rw [← hop]; rfl
                have a2 : (x.Op == 2) = false := by rw [← hop]; rfl
                have b2 : decide (x.Op = 2) = false := by rw [← hop]; rfl
                have a3 : (x.Op == 3) = false := by rw [← hop]; rfl
                have b3 : decide (x.Op = 3) = false := by rw [← hop]; rfl
                have a4 : (x.Op == 4) = false := by rw [← hop]; rfl
                have b4 : decide (x.Op = 4) = false := by rw [← hop]; rfl
                have a5 : (x.Op == 5) = false := by rw [← hop]; rfl
                have b5 : decide (x.Op = 5) = false := by rw [← hop]; rfl
                have a6 : (x.Op == 6) = false := by rw [← hop]; rfl
                have b6 : decide (x.Op = 6) = false := by rw [← hop]; rfl
                have a7 : (x.Op == 7) = false := by rw [← hop]; rfl
                have b7 : decide (x.Op = 7) = false := by rw [← hop]; rfl
                have a8 : (x.Op == 8) = true := by rw [← hop]; rfl
                have b8 : decide (x.Op = 8) = true := by rw [← hop]; rfl
                obtain rfl : f = true := by rw [HFB.out]; unfold firmB; rw [← hop]; rfl
                clear hop
                go_wp2_with fail
                go_meet
                exact ⟨by simp, HP8.out.1, HP8.out.2.1, HP8.out.2.2⟩
             by_cases h19 : op = 19
             · subst h19
               as_aux_lemma =>
                have a1 : (x.Op == 1) = false := by rw [← hop]; rfl
                have b1 : decide (x.Op = 1) = false := by rw [← hop]; rfl
                have a9 : (x.Op == 9) = false := by rw [← hop]; rfl
                have b9 : decide (x.Op = 9) = false := by rw [← hop]; rfl
                have a10 : (x.Op == 10) = false := by rw [← hop]; rfl
                have b10 : decide (x.Op = 10) = false := by rw [← hop]; rfl
                have a13 : (x.Op == 13) = false := by rw [← hop]; rfl
                have b13 : decide (x.Op = 13) = false := by rw [← hop]; rfl
                have a15 : (x.Op == 15) = false := by rw [← hop]; rfl
                have b15 : decide (x.Op = 15) = false := by rw [← hop]; rfl
                have a2 : (x.Op == 2) = false := by rw [← hop]; rfl
                have b2 : decide (x.Op = 2) = false := by rw [← hop]; rfl
                have a3 : (x.Op == 3) = false := by rw [← hop]; rfl
                have b3 : decide (x.Op = 3) = false := by rw [← hop]; rfl
                have a4 : (x.Op == 4) = false := by rw [← hop]; rfl
                have b4 : decide (x.Op = 4) = false := by rw [← hop]; rfl
                have a5 : (x.Op == 5) = false := by rw [← hop]; rfl
                have b5 : decide (x.Op = 5) = false := by rw [← hop]; rfl
                have a6 : (x.Op == 6) = false := by rw [← hop]; rfl
                have b6 : decide (x.Op = 6) = false := by rw [← hop]; rfl
                have a7 : (x.Op == 7) = false := by rw [← hop]; rfl
                have b7 : decide (x.Op = 7) = false := by rw [← hop]; rfl
                have a8 : (x.Op == 8) = false := by rw [← hop]; rfl
                have b8 : decide (x.Op = 8) = false := by rw [← hop]; rfl
                have a19 : (x.Op == 19) = true := by rw [← hop]; rfl
                have b19 : decide (x.Op = 19) = true := by rw [← hop]; rfl
                obtain rfl : f = true := by rw [HFB.out]; unfold firmB; rw [← hop]; rfl
                clear hop
                go_wp2_with fail
                go_meet
                exact ⟨by simp, HP8.out.1, HP8.out.2.1, HP8.out.2.2⟩
             by_cases h10 : op = 10
             · subst h10
               as_aux_lemma =>
                have a1 : (x.Op == 1) = false := by rw [← hop]; rfl
                have b1 : decide (x.Op = 1) = false := by rw [← hop]; rfl
                have a9 : (x.Op == 9) = false := by rw [← hop]; rfl
                have b9 : decide (x.Op = 9) = false := by rw [← hop]; rfl
                have a10 : (x.Op == 10) = true := by rw [← hop]; rfl
                have b10 : decide (x.Op = 10) = true := by rw [← hop]; rfl
                obtain ⟨r, hr⟩ : ∃ r, r = (t.Ins.any fun y => decide (y.Op ∈ [(11 : Int), 14])) := ⟨_, rfl⟩
                obtain rfl : f = !r := by
                 rw [HFB.out, hr]
                 unfold firmB hasOp
                 rw [← hop]
                 simp [Bool.decide_or]
                have HC9 : Hid (Calls Tryd.prog 54 #[.slice (some ⟨wr.heap.size, 0, none⟩) 2 2, .pointer (some ⟨w.heap.size, 0, none⟩)] (wr.alloc (.cells #[.int .i64 11, .int .i64 14] 3)) fun e w' => (∃ kk : Nat, e = .returned (.int .i64 (kk : Int)) ∧ (kk = 0 ↔ r = false)) ∧ Below wr.heap.size wr w') := by
                 rw [hr]
                 have hb : Below wr.heap.size wr (wr.alloc (.cells #[.int .i64 11, .int .i64 14] 3)) := (Below.refl _ _).alloc (Nat.le_refl _) _
                 refine (HCN.out _ [(11 : Int), 14] 2 (some ⟨wr.heap.size, 0, none⟩) 2 (HKP.out _ hb).2.2 rfl ((blk_new wr [.int .i64 11, .int .i64 14] 3).arr (zs := [11, 14]) (by unfold I64; simp) (by simp [maxLen]) (by show wr.heap.size < _; simp))).mono ?_
                 rintro e w' ⟨h1, h2⟩
                 exact ⟨h1, hb.trans (h2.mono hb.size)⟩
                clear hop hr HCN
                cases A with
                | false =>
                  go_wp2_with fail
                  go_meet
                  exact ⟨by simp, HP8.out.1, HP8.out.2.1, HP8.out.2.2⟩
                | true =>
                  cases r with
                  | false =>
                    go_wp2_with (go_at_call 54; refine HC9.out.mono ?_; rintro e w9 ⟨⟨kk, rfl, hkk⟩, hb⟩; obtain rfl : kk = 0 := hkk.2 rfl; have HP9 := Lib.hid (HKP.out _ hb); clear hb hkk)
                    go_meet
                    exact ⟨by simp, HP9.out.1, HP9.out.2.1, HP9.out.2.2⟩
                  | true =>
                    go_wp2_with (go_at_call 54; refine HC9.out.mono ?_; rintro e w9 ⟨⟨kk, rfl, hkk⟩, hb⟩; have q0 : kk ≠ 0 := fun e => (by have := hkk.1 e; cases this); have q1 : ((kk : Int) == 0) = false := (by rw [beq_eq_false_iff_ne]; omega); have q2 : decide ((kk : Int) = 0) = false := decide_eq_false (by omega); have q3 : decide (kk = 0) = false := decide_eq_false q0; have HP9 := Lib.hid (HKP.out _ hb); clear hb hkk q0)
                    go_meet
                    exact ⟨by simp, HP9.out.1, HP9.out.2.1, HP9.out.2.2⟩
             by_cases h13 : op = 13
             · subst h13
               as_aux_lemma =>
                have a1 : (x.Op == 1) = false := by rw [← hop]; rfl
                have b1 : decide (x.Op = 1) = false := by rw [← hop]; rfl
                have a9 : (x.Op == 9) = false := by rw [← hop]; rfl
                have b9 : decide (x.Op = 9) = false := by rw [← hop]; rfl
                have a10 : (x.Op == 10) = false := by rw [← hop]; rfl
                have b10 : decide (x.Op = 10) = false := by rw [← hop]; rfl
                have a13 : (x.Op == 13) = true := by rw [← hop]; rfl
                have b13 : decide (x.Op = 13) = true := by rw [← hop]; rfl
                obtain ⟨r, hr⟩ : ∃ r, r = (t.Ins.any fun y => decide (y.Op ∈ [(11 : Int), 14])) := ⟨_, rfl⟩
                obtain rfl : f = !r := by
                 rw [HFB.out, hr]
                 unfold firmB hasOp
                 rw [← hop]
                 simp [Bool.decide_or]
                have HC9 : Hid (Calls Tryd.prog 54 #[.slice (some ⟨wr.heap.size, 0, none⟩) 2 2, .pointer (some ⟨w.heap.size, 0, none⟩)] (wr.alloc (.cells #[.int .i64 11, .int .i64 14] 3)) fun e w' => (∃ kk : Nat, e = .returned (.int .i64 (kk : Int)) ∧ (kk = 0 ↔ r = false)) ∧ Below wr.heap.size wr w') := by
                 rw [hr]
                 have hb : Below wr.heap.size wr (wr.alloc (.cells #[.int .i64 11, .int .i64 14] 3)) := (Below.refl _ _).alloc (Nat.le_refl _) _
                 refine (HCN.out _ [(11 : Int), 14] 2 (some ⟨wr.heap.size, 0, none⟩) 2 (HKP.out _ hb).2.2 rfl ((blk_new wr [.int .i64 11, .int .i64 14] 3).arr (zs := [11, 14]) (by unfold I64; simp) (by simp [maxLen]) (by show wr.heap.size < _; simp))).mono ?_
                 rintro e w' ⟨h1, h2⟩
                 exact ⟨h1, hb.trans (h2.mono hb.size)⟩
                clear hop hr HCN
                cases A with
                | false =>
                  go_wp2_with fail
                  go_meet
                  exact ⟨by simp, HP8.out.1, HP8.out.2.1, HP8.out.2.2⟩
                | true =>
                  cases r with
                  | false =>
                    go_wp2_with (go_at_call 54; refine HC9.out.mono ?_; rintro e w9 ⟨⟨kk, rfl, hkk⟩, hb⟩; obtain rfl : kk = 0 := hkk.2 rfl; have HP9 := Lib.hid (HKP.out _ hb); clear hb hkk)
                    go_meet
                    exact ⟨by simp, HP9.out.1, HP9.out.2.1, HP9.out.2.2⟩
                  | true =>
                    go_wp2_with (go_at_call 54; refine HC9.out.mono ?_; rintro e w9 ⟨⟨kk, rfl, hkk⟩, hb⟩; have q0 : kk ≠ 0 := fun e => (by have := hkk.1 e; cases this); have q1 : ((kk : Int) == 0) = false := (by rw [beq_eq_false_iff_ne]; omega); have q2 : decide ((kk : Int) = 0) = false := decide_eq_false (by omega); have q3 : decide (kk = 0) = false := decide_eq_false q0; have HP9 := Lib.hid (HKP.out _ hb); clear hb hkk q0)
                    go_meet
                    exact ⟨by simp, HP9.out.1, HP9.out.2.1, HP9.out.2.2⟩
             by_cases h15 : op = 15
             · subst h15
               as_aux_lemma =>
                have a1 : (x.Op == 1) = false := by rw [← hop]; rfl
                have b1 : decide (x.Op = 1) = false := by rw [← hop]; rfl
                have a9 : (x.Op == 9) = false := by rw [← hop]; rfl
                have b9 : decide (x.Op = 9) = false := by rw [← hop]; rfl
                have a10 : (x.Op == 10) = false := by rw [← hop]; rfl
                have b10 : decide (x.Op = 10) = false := by rw [← hop]; rfl
                have a13 : (x.Op == 13) = false := by rw [← hop]; rfl
                have b13 : decide (x.Op = 13) = false := by rw [← hop]; rfl
                have a15 : (x.Op == 15) = true := by rw [← hop]; rfl
                have b15 : decide (x.Op = 15) = true := by rw [← hop]; rfl
                obtain ⟨r, hr⟩ : ∃ r, r = (t.Ins.any fun y => decide (y.Op ∈ [(17 : Int), 12])) := ⟨_, rfl⟩
                obtain rfl : f = !r := by
                 rw [HFB.out, hr]
                 unfold firmB hasOp
                 rw [← hop]
                 simp [Bool.decide_or]
                have HC9 : Hid (Calls Tryd.prog 54 #[.slice (some ⟨wr.heap.size, 0, none⟩) 2 2, .pointer (some ⟨w.heap.size, 0, none⟩)] (wr.alloc (.cells #[.int .i64 17, .int .i64 12] 3)) fun e w' => (∃ kk : Nat, e = .returned (.int .i64 (kk : Int)) ∧ (kk = 0 ↔ r = false)) ∧ Below wr.heap.size wr w') := by
                 rw [hr]
                 have hb : Below wr.heap.size wr (wr.alloc (.cells #[.int .i64 17, .int .i64 12] 3)) := (Below.refl _ _).alloc (Nat.le_refl _) _
                 refine (HCN.out _ [(17 : Int), 12] 2 (some ⟨wr.heap.size, 0, none⟩) 2 (HKP.out _ hb).2.2 rfl ((blk_new wr [.int .i64 17, .int .i64 12] 3).arr (zs := [17, 12]) (by unfold I64; simp) (by simp [maxLen]) (by show wr.heap.size < _; simp))).mono ?_
                 rintro e w' ⟨h1, h2⟩
                 exact ⟨h1, hb.trans (h2.mono hb.size)⟩
                clear hop hr HCN
                cases A with
                | false =>
                  go_wp2_with fail
                  go_meet
                  exact ⟨by simp, HP8.out.1, HP8.out.2.1, HP8.out.2.2⟩
                | true =>
                  cases r with
                  | false =>
                    go_wp2_with (go_at_call 54; refine HC9.out.mono ?_; rintro e w9 ⟨⟨kk, rfl, hkk⟩, hb⟩; obtain rfl : kk = 0 := hkk.2 rfl; have HP9 := Lib.hid (HKP.out _ hb); clear hb hkk)
                    go_meet
                    exact ⟨by simp, HP9.out.1, HP9.out.2.1, HP9.out.2.2⟩
                  | true =>
                    go_wp2_with (go_at_call 54; refine HC9.out.mono ?_; rintro e w9 ⟨⟨kk, rfl, hkk⟩, hb⟩; have q0 : kk ≠ 0 := fun e => (by have := hkk.1 e; cases this); have q1 : ((kk : Int) == 0) = false := (by rw [beq_eq_false_iff_ne]; omega); have q2 : decide ((kk : Int) = 0) = false := decide_eq_false (by omega); have q3 : decide (kk = 0) = false := decide_eq_false q0; have HP9 := Lib.hid (HKP.out _ hb); clear hb hkk q0)
                    go_meet
                    exact ⟨by simp, HP9.out.1, HP9.out.2.1, HP9.out.2.2⟩
             by_cases h9 : op = 9
             · subst h9
               as_aux_lemma =>
                have a1 : (x.Op == 1) = false := by rw [← hop]; rfl
                have b1 : decide (x.Op = 1) = false := by rw [← hop]; rfl
                have a9 : (x.Op == 9) = true := by rw [← hop]; rfl
                have b9 : decide (x.Op = 9) = true := by rw [← hop]; rfl
                obtain ⟨r, hr⟩ : ∃ r, r = (t.Ins.any fun y => decide (y.Op ∈ [(12 : Int)])) := ⟨_, rfl⟩
                obtain ⟨nn, hnn⟩ : ∃ nn, nn = x.N := ⟨_, rfl⟩
                obtain rfl : f = (!(decide (nn = 1)) || !r) := by
                 rw [HFB.out, hr, hnn]
                 unfold firmB hasOp
                 rw [← hop]
                 simp
                rw [← hnn] at c4
                have HC9 : Hid (Calls Tryd.prog 54 #[.slice (some ⟨wr.heap.size, 0, none⟩) 1 1, .pointer (some ⟨w.heap.size, 0, none⟩)] (wr.alloc (.cells #[.int .i64 12] 3)) fun e w' => (∃ kk : Nat, e = .returned (.int .i64 (kk : Int)) ∧ (kk = 0 ↔ r = false)) ∧ Below wr.heap.size wr w') := by
                 rw [hr]
                 have hb : Below wr.heap.size wr (wr.alloc (.cells #[.int .i64 12] 3)) := (Below.refl _ _).alloc (Nat.le_refl _) _
                 refine (HCN.out _ [(12 : Int)] 1 (some ⟨wr.heap.size, 0, none⟩) 1 (HKP.out _ hb).2.2 rfl ((blk_new wr [.int .i64 12] 3).arr (zs := [12]) (by unfold I64; simp) (by simp [maxLen]) (by show wr.heap.size < _; simp))).mono ?_
                 rintro e w' ⟨h1, h2⟩
                 exact ⟨h1, hb.trans (h2.mono hb.size)⟩
                clear hop hr HCN hnn
                cases A with
                | false =>
                  go_wp2_with fail
                  go_meet
                  exact ⟨by simp, HP8.out.1, HP8.out.2.1, HP8.out.2.2⟩
                | true =>
                  by_cases hn1 : nn = 1
                  · subst hn1
                    cases r with
                    | false =>
                      go_wp2_with (go_at_call 54; refine HC9.out.mono ?_; rintro e w9 ⟨⟨kk, rfl, hkk⟩, hb⟩; obtain rfl : kk = 0 := hkk.2 rfl; have HP9 := Lib.hid (HKP.out _ hb); clear hb hkk)
                      go_meet
                      exact ⟨by simp, HP9.out.1, HP9.out.2.1, HP9.out.2.2⟩
                    | true =>
                      go_wp2_with (go_at_call 54; refine HC9.out.mono ?_; rintro e w9 ⟨⟨kk, rfl, hkk⟩, hb⟩; have q0 : kk ≠ 0 := fun e => (by have := hkk.1 e; cases this); have q1 : ((kk : Int) == 0) = false := (by rw [beq_eq_false_iff_ne]; omega); have q2 : decide ((kk : Int) = 0) = false := decide_eq_false (by omega); have q3 : decide (kk = 0) = false := decide_eq_false q0; have HP9 := Lib.hid (HKP.out _ hb); clear hb hkk q0)
                      go_meet
                      exact ⟨by simp, HP9.out.1, HP9.out.2.1, HP9.out.2.2⟩
                  · have q1 : (nn != 1) = true := by simpa using hn1
                    have q2 : (nn == 1) = false := by simpa using hn1
                    have q3 : decide (nn = 1) = false := decide_eq_false hn1
                    have HQ3 := Lib.hid q3
                    clear hn1
                    go_wp2_with fail
                    go_meet
                    exact ⟨by rw [HQ3.out]; simp, HP8.out.1, HP8.out.2.1, HP8.out.2.2⟩
             by_cases h1' : op = 1
             · subst h1'
               as_aux_lemma =>
                have a1 : (x.Op == 1) = true := by rw [← hop]; rfl
                have b1 : decide (x.Op = 1) = true := by rw [← hop]; rfl
                have hb1 := HUP.out _ (HUQ.out _ HP8.out.2.2)
                obtain ⟨b7', d7', b8', d8', he, -, -, ⟨l7, n7', r7⟩, -⟩ := api_TExit_cells_eq (HAL.out wr hb1).back
                have he2 : Value.slice b7 m7 d7 = .slice b7' t.Back.Sets.length d7' := by have := congrArg (fun l => l[2]?) he; exact Option.some.inj this
                injection he2 with p1 p2 p3
                subst p1; subst p3
                have HM7 : Hid (m7 = t.Back.Sets.length) := p2
                have HSA : Hid (∀ W, Below wr.heap.size wr W → Arr S W b7 t.Back.Sets) := fun W hb => r7.keep fun b hb' => hb.block b (by have := HDOM.out b hb'; have := HZ1.out; have := hb1.size; omega)
                have HWR : Hid (w.heap.size ≤ wr.heap.size) := by have := HZ1.out; have := hb1.size; show _ ≤ _; omega
                have hm7 : m7 ≤ 60 := by rw [p2]; exact HR.out.back.fewS
                have HFF : Hid (f = (t.Back.Sets.all fun s => s.Reg != x.N)) := by
                 show _ = _
                 rw [HFB.out]
                 unfold firmB
                 rw [← hop, if_pos rfl]
                 simp only [List.all_eq_not_any_not]
                 congr 1
                 congr 1
                 funext s
                 simp [bne, decide_eq_decide]
                 rfl
                obtain ⟨-, -, -, -, -, -, -, -, -, -, -, g11, -, gl⟩ := HCELL.out wr hb1
                clear he n7' l7 r7 p2 hop HCN c4 lx hb1
                go_wp2_with fail
                clear g11 gl
                obtain ⟨wo, hwo⟩ : ∃ wo : World, wo = wr := ⟨_, rfl⟩
                rw [← hwo] at HKP HSA HWR
                have HKP0 := Lib.hid (HKP.out wo (Below.refl _ _))
                have HW0 : Hid (Below wo.heap.size wo wr) := by show Below _ _ _; rw [hwo]; exact Below.refl _ _
                clear hwo
                go_loopw [12, 92] (fun s i W => ∃ j : Nat, j ≤ m7 ∧ i = .int .i64 (j : Int) ∧ s = .bool (A && ((t.Back.Sets.take j).all fun s => s.Reg != x.N)) ∧ Below wo.heap.size wo W) (fun _ i _ => m7 - (intOf i).toNat)
                case atStart => exact ⟨0, Nat.zero_le _, rfl, by simp, HW0.out⟩
                case round =>
                 obtain ⟨j, hj, rfl, rfl, hbw⟩ := hrel
                 by_cases hlt3 : j < m7
                 · obtain ⟨sx, hs⟩ : ∃ sx, t.Back.Sets[j]? = some sx := ⟨_, List.getElem?_eq_getElem (by rw [← HM7.out]; exact hlt3)⟩
                   obtain ⟨bs, os, rfl, hbs, s0, s1, -, -⟩ := api_TSet_elem (HSA.out _ hbw) hs
                   have hbl : bs < wr.heap.size := by have := HDOM.out bs hbs; have := HWR.out; have := hbw.size; omega
                   have hx4 := (HKP.out wr hbw).2.1.cell (j := 4) rfl
                   have hx5 := (HKP.out wr hbw).2.1.lt
                   have hjm : (j : Int) < (m7 : Int) := by omega
                   have HBN : Hid (Below wo.heap.size wo (wr.alloc (.cells #[.int .i64 sx.Reg, .int .i64 sx.Val] 98))) := hbw.alloc hbw.size _
                   obtain ⟨b, hb⟩ : ∃ b, b = (A && ((t.Back.Sets.take j).all fun s => s.Reg != x.N)) := ⟨_, rfl⟩
                   obtain ⟨tb, htb⟩ : ∃ tb, tb = (sx.Reg != x.N) := ⟨_, rfl⟩
                   have HSU : Hid ((A && ((t.Back.Sets.take (j + 1)).all fun s => s.Reg != x.N)) = (b && tb)) := by
                    show _ = _
                    rw [List.take_add_one, hs, List.all_append, hb, htb]
                    simp [Bool.and_assoc]
                   rw [← hb]
                   clear hs hbs hb hbw
                   cases b with
                   | false =>
                     as_aux_lemma =>
                      clear htb
                      go_wp2_with fail
                      go_roundw
                      case rel => exact ⟨j + 1, by omega, by go_num, by rw [HSU.out]; rfl, HBN.out⟩
                      case measure => simp [intOf]; omega
                   | true =>
                     cases tb with
                     | false =>
                       as_aux_lemma =>
                        have q1 : (sx.Reg != x.N) = false := htb.symm
                        have q2 : (sx.Reg == x.N) = true := by simpa using q1
                        have q3 : decide (sx.Reg = x.N) = true := decide_eq_true (by simpa using q1)
                        clear htb
                        go_wp2_with fail
                        go_roundw
                        case rel => exact ⟨j + 1, by omega, by go_num, by rw [HSU.out]; rfl, HBN.out⟩
                        case measure => simp [intOf]; omega
                     | true =>
                       as_aux_lemma =>
                        have q1 : (sx.Reg != x.N) = true := htb.symm
                        have q2 : (sx.Reg == x.N) = false := by simpa using q1
                        have q3 : decide (sx.Reg = x.N) = false := decide_eq_false (by simpa using q1)
                        clear htb
                        go_wp2_with fail
                        go_roundw
                        case rel => exact ⟨j + 1, by omega, by go_num, by rw [HSU.out]; rfl, HBN.out⟩
                        case measure => simp [intOf]; omega
                 · as_aux_lemma =>
                    obtain rfl : m7 = j := by omega
                    have HP9 := Lib.hid (HKP.out wr hbw)
                    have HSU : Hid ((A && ((t.Back.Sets.take m7).all fun s => s.Reg != x.N)) = (f && A)) := by show _ = _; rw [HM7.out, List.take_length, HFF.out, Bool.and_comm]
                    rw [HSU.out]
                    clear hbw
                    go_wp2_with fail
                    go_meet
                    exact ⟨rfl, HP9.out.1, HP9.out.2.1, HP9.out.2.2⟩
             as_aux_lemma =>
              obtain rfl : f = false := by rw [HFB.out]; unfold firmB; rw [← hop, if_neg h1', if_neg h9, if_neg (by omega), if_neg h15, if_neg (by omega)]
              have a1 : (x.Op == 1) = false := by rw [← hop, beq_eq_false_iff_ne]; exact h1'
              have b1 : decide (x.Op = 1) = false := by rw [← hop]; exact decide_eq_false h1'
              have a9 : (x.Op == 9) = false := by rw [← hop, beq_eq_false_iff_ne]; exact h9
              have b9 : decide (x.Op = 9) = false := by rw [← hop]; exact decide_eq_false h9
              have a10 : (x.Op == 10) = false := by rw [← hop, beq_eq_false_iff_ne]; exact h10
              have b10 : decide (x.Op = 10) = false := by rw [← hop]; exact decide_eq_false h10
              have a13 : (x.Op == 13) = false := by rw [← hop, beq_eq_false_iff_ne]; exact h13
              have b13 : decide (x.Op = 13) = false := by rw [← hop]; exact decide_eq_false h13
              have a15 : (x.Op == 15) = false := by rw [← hop, beq_eq_false_iff_ne]; exact h15
              have b15 : decide (x.Op = 15) = false := by rw [← hop]; exact decide_eq_false h15
              have a2 : (x.Op == 2) = false := by rw [← hop, beq_eq_false_iff_ne]; exact h2
              have b2 : decide (x.Op = 2) = false := by rw [← hop]; exact decide_eq_false h2
              have a3 : (x.Op == 3) = false := by rw [← hop, beq_eq_false_iff_ne]; exact h3
              have b3 : decide (x.Op = 3) = false := by rw [← hop]; exact decide_eq_false h3
              have a4 : (x.Op == 4) = false := by rw [← hop, beq_eq_false_iff_ne]; exact h4
              have b4 : decide (x.Op = 4) = false := by rw [← hop]; exact decide_eq_false h4
              have a5 : (x.Op == 5) = false := by rw [← hop, beq_eq_false_iff_ne]; exact h5
              have b5 : decide (x.Op = 5) = false := by rw [← hop]; exact decide_eq_false h5
              have a6 : (x.Op == 6) = false := by rw [← hop, beq_eq_false_iff_ne]; exact h6
              have b6 : decide (x.Op = 6) = false := by rw [← hop]; exact decide_eq_false h6
              have a7 : (x.Op == 7) = false := by rw [← hop, beq_eq_false_iff_ne]; exact h7
              have b7 : decide (x.Op = 7) = false := by rw [← hop]; exact decide_eq_false h7
              have a8 : (x.Op == 8) = false := by rw [← hop, beq_eq_false_iff_ne]; exact h8
              have b8 : decide (x.Op = 8) = false := by rw [← hop]; exact decide_eq_false h8
              have a19 : (x.Op == 19) = false := by rw [← hop, beq_eq_false_iff_ne]; exact h19
              have b19 : decide (x.Op = 19) = false := by rw [← hop]; exact decide_eq_false h19
              clear hop h1' h9 h10 h13 h15 h2 h3 h4 h5 h6 h7 h8 h19
              go_wp2_with fail
              go_meet
              exact ⟨by simp, HP8.out.1, HP8.out.2.1, HP8.out.2.2⟩
            case rest =>
             obtain ⟨rfl, hto, hrow, hbk⟩ := hcut
             obtain ⟨b, hb⟩ : ∃ b, b = (f && A) := ⟨_, rfl⟩
             obtain ⟨te, hte⟩ : ∃ te, te = tellsOf x.Op := ⟨_, rfl⟩
             have HPA : Hid (peelAt t k = if b = true then (if te = true then (k : Int) else -1) else (nI : Int) + k) := by
              show _ = _
              rw [peelAt_is HX.out, hb, hte, HFB.out, HLO.out, HLI.out]
             have HTL : Hid (∀ W', Calls Tryd.prog 12 #[.int .i64 x.Op] W' fun e w' => e = .returned (.bool te) ∧ Below W'.heap.size W' w') := fun W' => by rw [hte]; exact rtells_any
             rw [← hb]
             have HTO := Lib.hid hto
             have HBK := Lib.hid hbk
             obtain ⟨gn0, gn1⟩ := HNC.out wc (HUQ.out _ hbk)
             have y0 := hrow.cell (j := 0) rfl
             have y1 := hrow.lt
             have HLEN : Hid ((toL t nI k).length + 1 ≤ 1000000000) := by show _ ≤ _; rw [toL_len]; omega
             have hwk : IntKind.i64.wrap ((nI : Int) + (k : Int)) = (nI : Int) + (k : Int) := by rw [IntWalk.i64_in _ (by omega)]
             have HFR : Hid (wq.heap.size ≤ wc.heap.size) := hbk.size
             clear hto hbk hrow hb hte HP8 HLO HFB
             cases b with
             | false =>
               as_aux_lemma =>
                have HVAL : Hid (peelAt t k = (nI : Int) + (k : Int)) := by show _ = _; rw [HPA.out]; simp
                have HIV : Hid (∀ W, Rep.cells (fun _ => False) W [.int .i64 ((nI : Int) + (k : Int))] ((nI : Int) + (k : Int) : Int)) := fun W => ⟨rfl, by unfold I64; omega⟩
                go_wp2_with (at_builtin; (with_reducible refine Tryd.wp_app58 (S := fun _ => False) (v := v) (xs := toL t nI k) (y := ((nI : Int) + (k : Int) : Int)) (w0 := wc) rfl rfl (by with_unfolding_all rfl) rfl rfl (by first | rfl | omega) HTO.out (HIV.out _) (fun _ h => h.elim) HLEN.out HFR.out fun v6 w6 hown6 hg6 => ?_); have HN6 := Lib.hid hown6; have HB6 : Hid (Below wq.heap.size wq w6) := HBK.out.grown hg6 HFR.out (fun r hr => (HTO.out.lt r hr).1); clear hown6 hg6)
                go_roundw
                case rel => exact ⟨k + 1, _, rfl, by omega, by go_num, by rw [← toL_succ, HVAL.out]; exact HN6.out, HB6.out⟩
                case measure => simp [intOf]; omega
             | true =>
               cases te with
               | true =>
                 as_aux_lemma =>
                  have HVAL : Hid (peelAt t k = (k : Int)) := by show _ = _; rw [HPA.out]; simp
                  have HIV : Hid (∀ W, Rep.cells (fun _ => False) W [.int .i64 (k : Int)] (k : Int)) := fun W => ⟨rfl, by unfold I64; omega⟩
                  go_wp2_with (first
                   | (go_at_call 12; refine (HTL.out _).mono ?_; rintro e w10 ⟨rfl, hb⟩; have HTO1 := Lib.hid (HTO.out.below hb (fun _ h => h.elim)); have HBK1 : Hid (Below wq.heap.size wq w10) := HBK.out.trans (hb.mono HFR.out); have HFR1 : Hid (wq.heap.size ≤ w10.heap.size) := Nat.le_trans HFR.out hb.size; clear hb)
                   | (at_builtin; (with_reducible refine Tryd.wp_app58 (S := fun _ => False) (v := v) (xs := toL t nI k) (y := (k : Int)) (w0 := w10) rfl rfl (by with_unfolding_all rfl) rfl rfl (by first | rfl | omega) HTO1.out (HIV.out _) (fun _ h => h.elim) HLEN.out HFR1.out fun v6 w6 hown6 hg6 => ?_); have HN6 := Lib.hid hown6; have HB6 : Hid (Below wq.heap.size wq w6) := HBK1.out.grown hg6 HFR1.out (fun r hr => (HTO1.out.lt r hr).1); clear hown6 hg6))
                  go_roundw
                  case rel => exact ⟨k + 1, _, rfl, by omega, by go_num, by rw [← toL_succ, HVAL.out]; exact HN6.out, HB6.out⟩
                  case measure => simp [intOf]; omega
               | false =>
                 as_aux_lemma =>
                  have HVAL : Hid (peelAt t k = (-1 : Int)) := by show _ = _; rw [HPA.out]; simp
                  have HIV : Hid (∀ W, Rep.cells (fun _ => False) W [.int .i64 (-1 : Int)] (-1 : Int)) := fun W => ⟨rfl, by unfold I64; omega⟩
                  go_wp2_with (first
                   | (go_at_call 12; refine (HTL.out _).mono ?_; rintro e w10 ⟨rfl, hb⟩; have HTO1 := Lib.hid (HTO.out.below hb (fun _ h => h.elim)); have HBK1 : Hid (Below wq.heap.size wq w10) := HBK.out.trans (hb.mono HFR.out); have HFR1 : Hid (wq.heap.size ≤ w10.heap.size) := Nat.le_trans HFR.out hb.size; clear hb)
                   | (at_builtin; (with_reducible refine Tryd.wp_app58 (S := fun _ => False) (v := v) (xs := toL t nI k) (y := (-1 : Int)) (w0 := w10) rfl rfl (by with_unfolding_all rfl) rfl rfl (by first | rfl | omega) HTO1.out (HIV.out _) (fun _ h => h.elim) HLEN.out HFR1.out fun v6 w6 hown6 hg6 => ?_); have HN6 := Lib.hid hown6; have HB6 : Hid (Below wq.heap.size wq w6) := HBK1.out.grown hg6 HFR1.out (fun r hr => (HTO1.out.lt r hr).1); clear hown6 hg6))
                  go_roundw
                  case rel => exact ⟨k + 1, _, rfl, by omega, by go_num, by rw [← toL_succ, HVAL.out]; exact HN6.out, HB6.out⟩
                  case measure => simp [intOf]; omega
      · obtain rfl : nI = k := by omega
        have HTP : Hid (toL t nI nI = peelTo t) := by show _ = _; unfold toL peelTo; rw [HLI.out]
        have HVL : Hid (∀ b, v.ownBlock = some b → wq.heap.size ≤ b) := fun b hb => (hto.lt b hb).1
        have HGL : Hid (go < wq.heap.size) := HPW.out.lt
        have HL2 : Hid (PW w2 0 go u0 u1 u2 u3 v0 v1 v2 v3 wr vI0 vE0 (rpK t 0 0) ∧ Own (fun _ => False) wr wq.heap.size 3 v (peelTo t) ∧ Apart vI0 v) := by
         refine ⟨?_, by rw [← HTP.out]; exact hto, fun b h1 h2 => by have := (HPW.out.ins.lt b h1).2; have := HVL.out b h2; omega⟩
         rw [← rpK_zero]
         exact HPW.out.call hbk
        have HAE : Hid (Apart vE0 v) := fun b h1 h2 => by have := (HPW.out.exs.lt b h1).2; have := HVL.out b h2; omega
        obtain ⟨-, -, -, t3, -, -, -, -, -, -, -, -, -, lt⟩ := HCELL.out wr (HUP.out _ (HUQ.out _ hbk))
        clear hto hbk HPW HTP
        go_wp2_with fail
        clear t3 lt
        go_loopw [171] (fun i W => ∃ (k : Nat) (vI : Value), k ≤ nI ∧ i = .int .i64 (k : Int) ∧ PW w2 0 go u0 u1 u2 u3 v0 v1 v2 v3 W vI vE0 (rpK t k 0) ∧ Own (fun _ => False) W wq.heap.size 3 v (peelTo t) ∧ Apart vI v) (fun i _ => nI - (intOf i).toNat)
        case atStart => exact ⟨0, _, Nat.zero_le _, rfl, HL2.out⟩
        case round =>
         clear HL2
         obtain ⟨k, vI, hk, rfl, hpw, hto, hap⟩ := hrel
         by_cases hlt : k < nI
         · as_aux_lemma =>
            obtain ⟨x, hx⟩ : ∃ x, t.Ins[k]? = some x := ⟨_, List.getElem?_eq_getElem (by rw [HLI.out]; exact hlt)⟩
            obtain ⟨bi, oi, haI, hSi, i0, i1, i2, i3, i4, i5, i6, i7, j0, j1, j2, j3, j4, j5, j6, j7⟩ := api_TIns_elem (HAL.out wr (HUP.out _ hpw.below)).ins hx
            have hbi : bi < wr.heap.size := by have := HDOM.out bi hSi; have := HZ1.out; have := (HUP.out _ hpw.below).size; omega
            subst haI
            have hki : (k : Int) < (nI : Int) := by omega
            have HX := Lib.hid hx
            have HP := Lib.hid hpw; have HTO := Lib.hid hto; have HAP := Lib.hid hap
            have HGT : Hid (∀ v ∈ asksOf x, 0 ≤ v ∧ v < nI) := fun v hv => by
             obtain ⟨u, y, rfl, h1, h2, -⟩ := valAt_iff.1 (HR.out.asks k x hx v hv)
             have := HLI.out
             have := (List.getElem?_eq_some_iff.1 h2).1
             omega
            have hway := HR.out.way k x hx
            rw [HLE.out] at hway
            obtain ⟨n, hn3, hasks, htk, hln⟩ := Go.Proofs.YtekofpigmggbbaaDoor.chk.asks_nat x
            have HID : Hid (putI (idTo nI) x = x) := by
             show _ = _
             unfold putI cutIns
             rw [hasks]
             have e : ∀ v ∈ asksOf x, forV (idTo nI) v = v := fun v hv => by
              obtain ⟨u, rfl⟩ : ∃ u : Nat, v = u := ⟨v.toNat, by have := HGT.out v hv; omega⟩
              exact forV_at (idTo_at (by have := HGT.out _ hv; omega))
             rw [htk] at e
             obtain ⟨Op, A, B, C, N, Exit, K⟩ := x
             rcases (show n = 0 ∨ n = 1 ∨ n = 2 ∨ n = 3 by omega) with rfl | rfl | rfl | rfl
             · rfl
             · have e1 := e A (by simp)
               simp [cutArgs, e1]
             · have e1 := e A (by simp); have e2 := e B (by simp)
               simp [cutArgs, e1, e2]
             · have e1 := e A (by simp); have e2 := e B (by simp); have e3 := e C (by simp)
               simp [cutArgs, e1, e2, e3]
            have HPUT : Hid (∀ W a c, Arr (fun b => b < W.heap.size) W a (idTo nI) → Calls Tryd.prog 40 #[.agg #[.int .i64 x.Op, .int .i64 x.A, .int .i64 x.B, .int .i64 x.C, .int .i64 x.N, .int .i64 x.Exit, .int .i64 x.K.Kind, .int .i64 x.K.N], .slice a nI c] W fun e w' => e = .returned (.agg #[.int .i64 x.Op, .int .i64 x.A, .int .i64 x.B, .int .i64 x.C, .int .i64 x.N, .int .i64 x.Exit, .int .i64 x.K.Kind, .int .i64 x.K.N]) ∧ Below W.heap.size W w') := fun W a c har => by
             refine (put_any (cT := c) har (fun _ h => h) (idTo_len nI) HGT.out).mono ?_
             rintro e w' ⟨rfl, hb⟩
             rw [HID.out]
             exact ⟨rfl, hb⟩
            have HMC : Hid (movedI nI nE x = ⟨(cutArgs (addG nI) n x).Op, (cutArgs (addG nI) n x).A, (cutArgs (addG nI) n x).B, (cutArgs (addG nI) n x).C, x.N, if 0 ≤ x.Exit then x.Exit + nE else x.Exit, x.K⟩) := moved_cut hasks
            have HVAL : Hid (∀ W', Calls Tryd.prog 55 #[.int .i64 x.Op] W' fun e w' => e = .returned (.int .i64 (n : Int)) ∧ Below W'.heap.size W' w') := fun W' => by have h := values_any W' x.Op; rwa [hasks] at h
            rw [htk] at HGT
            have HJ : Hid (I64 x.Op ∧ I64 x.N ∧ I64 x.K.Kind ∧ I64 x.K.N ∧ I64 x.A ∧ I64 x.B ∧ I64 x.C) := ⟨j0, j4, j6, j7, j1, j2, j3⟩
            have HX5 : Hid (Row (wr.alloc (.cells #[.int .i64 x.Op, .int .i64 x.A, .int .i64 x.B, .int .i64 x.C, .int .i64 x.N, .int .i64 x.Exit, .int .i64 x.K.Kind, .int .i64 x.K.N] 43)) wr.heap.size 43 #[.int .i64 x.Op, .int .i64 x.A, .int .i64 x.B, .int .i64 x.C, .int .i64 x.N, .int .i64 x.Exit, .int .i64 x.K.Kind, .int .i64 x.K.N]) := row_new _ _ _
            have HB5 : Hid (Below wr.heap.size wr (wr.alloc (.cells #[.int .i64 x.Op, .int .i64 x.A, .int .i64 x.B, .int .i64 x.C, .int .i64 x.N, .int .i64 x.Exit, .int .i64 x.K.Kind, .int .i64 x.K.N] 43))) := (Below.refl _ _).alloc (Nat.le_refl _) _
            have HZ5 : Hid ((wr.alloc (.cells #[.int .i64 x.Op, .int .i64 x.A, .int .i64 x.B, .int .i64 x.C, .int .i64 x.N, .int .i64 x.Exit, .int .i64 x.K.Kind, .int .i64 x.K.N] 43)).heap.size = wr.heap.size + 1) := by show _ = _; simp
            have HCL : Hid (∀ W, Below wr.heap.size wr W → Row W w.heap.size 34 #[.int .i64 t.Fn, .int .i64 t.At, .int .i64 t.Loop, .slice (some ⟨bi, oi, none⟩) nI cI, .slice aE nE cE, .int .i64 t.Turn.At, .int .i64 t.Turn.Steps, .slice a7 n7 c7, .slice a8 n8 c8, .int .i64 t.Back.At, .int .i64 t.Back.Steps, .slice b7 m7 d7, .slice b8 m8 d8] ∧ (W.cell? ⟨gn, 0, none⟩ = some (.int .i64 (nI : Int)) ∧ gn < W.heap.size) ∧ Below w2.heap.size w2 W) := fun W hb => by
             have h := HP.out.call hb
             exact ⟨(HRT.out W (HUP.out _ h.below)).1, HNC.out W h.below, h.below⟩
            clear hx hpw hto hap hSi hasks htk hln j0 j1 j2 j3 j4 j5 j6 j7
            go_upto_region 49 with fail
            obtain ⟨gx, hgx⟩ : ∃ gx, gx = wr.heap.size := ⟨_, rfl⟩
            obtain ⟨wo, hwo⟩ : ∃ wo : World, wo = wr := ⟨_, rfl⟩
            generalize wr.alloc (.cells #[.int .i64 x.Op, .int .i64 x.A, .int .i64 x.B, .int .i64 x.C, .int .i64 x.N, .int .i64 x.Exit, .int .i64 x.K.Kind, .int .i64 x.K.N] 43) = w5 at HX5 HB5 HZ5 ⊢
            rw [← hwo] at HP HTO HB5 HCL
            rw [← hgx] at HX5 HZ5 ⊢
            have HGX : Hid (gx = wo.heap.size) := by show _ = _; rw [hgx, hwo]
            clear i0 i1 i2 i3 i4 i5 i6 i7 hbi hgx hwo
            obtain ⟨-, ⟨gn0, gn1⟩, -⟩ := HCL.out w5 HB5.out
            go_upto_region 50 with fail
            clear gn0 gn1
            have HL6 : Hid (Blk (w5.alloc (.cells #[.int .i64 (nI : Int), .int .i64 (nI : Int), .int .i64 (nI : Int)] 3)) w5.heap.size 3 [.int .i64 (nI : Int), .int .i64 (nI : Int), .int .i64 (nI : Int)]) := blk_new _ _ _
            have HX6 : Hid (Row (w5.alloc (.cells #[.int .i64 (nI : Int), .int .i64 (nI : Int), .int .i64 (nI : Int)] 3)) gx 43 #[.int .i64 x.Op, .int .i64 x.A, .int .i64 x.B, .int .i64 x.C, .int .i64 x.N, .int .i64 x.Exit, .int .i64 x.K.Kind, .int .i64 x.K.N]) := HX5.out.keep (Below.heap_alloc _ _ _ HX5.out.lt)
            have HB6 : Hid (Below wo.heap.size wo (w5.alloc (.cells #[.int .i64 (nI : Int), .int .i64 (nI : Int), .int .i64 (nI : Int)] 3))) := HB5.out.alloc HB5.out.size _
            rw [HZ5.out] at HL6 ⊢
            generalize w5.alloc (.cells #[.int .i64 (nI : Int), .int .i64 (nI : Int), .int .i64 (nI : Int)] 3) = w6 at HL6 HX6 HB6 ⊢
            clear HX5 HB5 HZ5
            go_cut [20] (fun s W => ∃ gy : Nat, s = .pointer (some ⟨gy, 0, none⟩) ∧ Row W gy 43 #[.int .i64 x.Op, .int .i64 x.A, .int .i64 x.B, .int .i64 x.C, .int .i64 x.N, .int .i64 x.Exit, .int .i64 x.K.Kind, .int .i64 x.K.N] ∧ Below w6.heap.size w6 W ∧ w6.heap.size ≤ gy)
            case first =>
             as_aux_lemma =>
              have HBD : Hid (Below w6.heap.size w6 w6.drew) := (Below.refl _ _).drew
              obtain ⟨C0, HCC⟩ : ∃ C0 : World → Prop, Hid (∀ W, C0 W ↔ Below w6.heap.size w6 W) := ⟨_, fun _ => Iff.rfl⟩
              have HC0 : Hid (C0 w6.drew) := (HCC.out _).2 HBD.out
              have HNEC : Nonempty (HeldW C0) := ⟨⟨_, HC0.out⟩⟩
              have HUW : Hid (∀ W, Below w6.heap.size w6 W → Below wo.heap.size wo W) := fun W hb => HB6.out.trans (hb.mono HB6.out.size)
              have HDT : Hid (∀ W, (∃ d : HeldW C0, W = d.val) → Row W w.heap.size 34 #[.int .i64 t.Fn, .int .i64 t.At, .int .i64 t.Loop, .slice (some ⟨bi, oi, none⟩) nI cI, .slice aE nE cE, .int .i64 t.Turn.At, .int .i64 t.Turn.Steps, .slice a7 n7 c7, .slice a8 n8 c8, .int .i64 t.Back.At, .int .i64 t.Back.Steps, .slice b7 m7 d7, .slice b8 m8 d8]) := fun W ⟨d, hd⟩ => by rw [hd]; exact (HCL.out _ (HUW.out _ ((HCC.out _).1 d.ok))).1
              have HDX : Hid (∀ W, (∃ d : HeldW C0, W = d.val) → Row W gx 43 #[.int .i64 x.Op, .int .i64 x.A, .int .i64 x.B, .int .i64 x.C, .int .i64 x.N, .int .i64 x.Exit, .int .i64 x.K.Kind, .int .i64 x.K.N]) := fun W ⟨d, hd⟩ => by rw [hd]; exact HX6.out.keep (((HCC.out _).1 d.ok).block _ HX6.out.lt)
              refine wp_region_tree C0 (.quiet 0 (.quiet 1 (.both 2 (.both 3 (.op 4 .tail) 4 (.op 3 .tail)) 4 (.op 2 (.op 3 .tail))))) 5 20 (by kernel_rfl) (by kernel_rfl) (by kernel_rfl) (by kernel_rfl) HC0.out ?_
              simp only [List.drop_succ_cons, List.drop_zero]
              refine tree_quiet (by repeat (first | with_reducible exact nth_zero | with_reducible apply nth_succ)) ?_
              go_big_quiet_want
              (first | (with_reducible refine qldI rfl rfl HDX.out rfl ?_; simp only [Act.put, List.setIfInBounds_toArray, List.set_cons_succ, List.set_cons_zero]))
              go_big_quiet_on
              refine wpQuiet_nil ?_
              refine tree_quiet (by repeat (first | with_reducible exact nth_zero | with_reducible apply nth_succ)) ?_
              go_big_quiet_want
              (first | (with_reducible refine qldT rfl rfl HDT.out rfl ?_; simp only [Act.put, List.setIfInBounds_toArray, List.set_cons_succ, List.set_cons_zero]))
              go_big_quiet_on
              refine wpQuiet_nil ?_
              refine tree_both ?_ ?_
              · skip
                refine opGoal_mk (by repeat (first | with_reducible exact nth_zero | with_reducible apply nth_succ)) (by rfl) fun RR HRR => ?_
                go_wp2_with (go_at_call 39; refine (HS0.out _ (HUP.out _ (HCL.out _ (HUW.out _ HBD.out)).2.2)).mono ?_; rintro e w7 ⟨a9, c9, rfl, ho, hb⟩; have HA9 : Hid (Arr (fun b => b < w7.heap.size) w7 a9 (idTo nI)) := own_arr_lt ho; have HBw7 : Hid (Below w6.heap.size w6 w7) := HBD.out.trans (hb.mono HBD.out.size); clear ho hb)
                refine AfterT.normal (HRR _ _ (isC ((HCC.out _).2 HBw7.out)) ?_)
                clear HRR RR
                refine tree_both ?_ ?_
                · skip
                  refine opGoal_mk (by repeat (first | with_reducible exact nth_zero | with_reducible apply nth_succ)) (by rfl) fun RR HRR => ?_
                  go_wp2_with (go_at_call 40; refine (HPUT.out _ _ _ HA9.out).mono ?_; rintro e w8 ⟨rfl, hb⟩; have HBw8 : Hid (Below w6.heap.size w6 w8) := HBw7.out.trans (hb.mono HBw7.out.size); have HKB := Lib.hid hb; clear hb)
                  refine AfterT.normal (HRR _ _ (isC ((HCC.out _).2 HBw8.out)) ?_)
                  clear HRR RR
                  unfold wpTree
                  refine opGoal_mk (by repeat (first | with_reducible exact nth_zero | with_reducible apply nth_succ)) (by rfl) fun RR HRR => ?_
                  go_wp2_with fail
                  obtain ⟨w9, hw9⟩ : ∃ W, W = w8.alloc (.cells #[.int .i64 0, .int .i64 0, .int .i64 0, .int .i64 0, .int .i64 0, .int .i64 0, .int .i64 0, .int .i64 0] 43) := ⟨_, rfl⟩
                  rw [show w8.alloc (.cells #[.int .i64 0, .int .i64 0, .int .i64 0, .int .i64 0, .int .i64 0, .int .i64 0, .int .i64 0, .int .i64 0] 43) = w9 from hw9.symm]
                  have HA : Hid (Row w9 w8.heap.size 43 #[.int .i64 0, .int .i64 0, .int .i64 0, .int .i64 0, .int .i64 0, .int .i64 0, .int .i64 0, .int .i64 0]) := by show Row _ _ _ _; rw [hw9]; exact row_new w8 _ _
                  have HBw9 : Hid (Below w6.heap.size w6 w9) := by show Below _ _ _; rw [hw9]; exact HBw8.out.alloc HBw8.out.size _
                  have HGE : Hid (w6.heap.size ≤ w8.heap.size) := HBw8.out.size
                  try (have HA9 : Hid (Arr (fun b => b < w9.heap.size) w9 a9 (idTo nI)) := (by show Arr _ _ _ _; rw [hw9]; exact Arr.lifted HA9.out _ _))
                  clear hw9
                  refine AfterT.normal (HRR _ _ (isC ((HCC.out _).2 HBw9.out)) ?_)
                  clear HRR RR
                  have HAY := HA
                  refine tree_done ?_
                  have HOY : Hid (Row w9 w8.heap.size 43 #[.int .i64 0, .int .i64 0, .int .i64 0, .int .i64 0, .int .i64 0, .int .i64 0, .int .i64 0, .int .i64 0]) := HAY.out
                  have HYY : Hid (Row (w9.setRow w8.heap.size (insL x).toArray) w8.heap.size 43 #[.int .i64 x.Op, .int .i64 x.A, .int .i64 x.B, .int .i64 x.C, .int .i64 x.N, .int .i64 x.Exit, .int .i64 x.K.Kind, .int .i64 x.K.N]) := setRow_heap _ _ _ _ _ _ HOY.out
                  have HBY : Hid (Below w6.heap.size w6 (w9.setRow w8.heap.size (insL x).toArray)) := below_setRow HBw9.out HGE.out _
                  go_wp2_with (with_reducible refine stI (q := x) (OLD := #[.int .i64 0, .int .i64 0, .int .i64 0, .int .i64 0, .int .i64 0, .int .i64 0, .int .i64 0, .int .i64 0]) rfl rfl rfl rfl HOY.out rfl ?_)
                  all_goals refine NoPanic.normal ?_
                  all_goals go_wp2_with fail
                  all_goals go_meet
                  all_goals exact ⟨_, rfl, HYY.out, HBY.out, HGE.out⟩
                · skip
                  refine opGoal_mk (by repeat (first | with_reducible exact nth_zero | with_reducible apply nth_succ)) (by rfl) fun RR HRR => ?_
                  go_wp2_with fail
                  obtain ⟨w8, hw8⟩ : ∃ W, W = w7.alloc (.cells #[.int .i64 0, .int .i64 0, .int .i64 0, .int .i64 0, .int .i64 0, .int .i64 0, .int .i64 0, .int .i64 0] 43) := ⟨_, rfl⟩
                  rw [show w7.alloc (.cells #[.int .i64 0, .int .i64 0, .int .i64 0, .int .i64 0, .int .i64 0, .int .i64 0, .int .i64 0, .int .i64 0] 43) = w8 from hw8.symm]
                  have HA : Hid (Row w8 w7.heap.size 43 #[.int .i64 0, .int .i64 0, .int .i64 0, .int .i64 0, .int .i64 0, .int .i64 0, .int .i64 0, .int .i64 0]) := by show Row _ _ _ _; rw [hw8]; exact row_new w7 _ _
                  have HBw8 : Hid (Below w6.heap.size w6 w8) := by show Below _ _ _; rw [hw8]; exact HBw7.out.alloc HBw7.out.size _
                  have HGE : Hid (w6.heap.size ≤ w7.heap.size) := HBw7.out.size
                  try (have HA9 : Hid (Arr (fun b => b < w8.heap.size) w8 a9 (idTo nI)) := (by show Arr _ _ _ _; rw [hw8]; exact Arr.lifted HA9.out _ _))
                  clear hw8
                  refine AfterT.normal (HRR _ _ (isC ((HCC.out _).2 HBw8.out)) ?_)
                  clear HRR RR
                  unfold wpTree
                  refine opGoal_mk (by repeat (first | with_reducible exact nth_zero | with_reducible apply nth_succ)) (by rfl) fun RR HRR => ?_
                  go_wp2_with (go_at_call 40; refine (HPUT.out _ _ _ HA9.out).mono ?_; rintro e w9 ⟨rfl, hb⟩; have HBw9 : Hid (Below w6.heap.size w6 w9) := HBw8.out.trans (hb.mono HBw8.out.size); have HKB := Lib.hid hb; clear hb)
                  refine AfterT.normal (HRR _ _ (isC ((HCC.out _).2 HBw9.out)) ?_)
                  clear HRR RR
                  have HAY : Hid (Row w9 w7.heap.size 43 #[.int .i64 0, .int .i64 0, .int .i64 0, .int .i64 0, .int .i64 0, .int .i64 0, .int .i64 0, .int .i64 0]) := HA.out.keep (HKB.out.block _ HA.out.lt)
                  refine tree_done ?_
                  have HOY : Hid (Row w9 w7.heap.size 43 #[.int .i64 0, .int .i64 0, .int .i64 0, .int .i64 0, .int .i64 0, .int .i64 0, .int .i64 0, .int .i64 0]) := HAY.out
                  have HYY : Hid (Row (w9.setRow w7.heap.size (insL x).toArray) w7.heap.size 43 #[.int .i64 x.Op, .int .i64 x.A, .int .i64 x.B, .int .i64 x.C, .int .i64 x.N, .int .i64 x.Exit, .int .i64 x.K.Kind, .int .i64 x.K.N]) := setRow_heap _ _ _ _ _ _ HOY.out
                  have HBY : Hid (Below w6.heap.size w6 (w9.setRow w7.heap.size (insL x).toArray)) := below_setRow HBw9.out HGE.out _
                  go_wp2_with (with_reducible refine stI (q := x) (OLD := #[.int .i64 0, .int .i64 0, .int .i64 0, .int .i64 0, .int .i64 0, .int .i64 0, .int .i64 0, .int .i64 0]) rfl rfl rfl rfl HOY.out rfl ?_)
                  all_goals refine NoPanic.normal ?_
                  all_goals go_wp2_with fail
                  all_goals go_meet
                  all_goals exact ⟨_, rfl, HYY.out, HBY.out, HGE.out⟩
              · skip
                refine opGoal_mk (by repeat (first | with_reducible exact nth_zero | with_reducible apply nth_succ)) (by rfl) fun RR HRR => ?_
                go_wp2_with fail
                obtain ⟨w7, hw7⟩ : ∃ W, W = w6.drew.alloc (.cells #[.int .i64 0, .int .i64 0, .int .i64 0, .int .i64 0, .int .i64 0, .int .i64 0, .int .i64 0, .int .i64 0] 43) := ⟨_, rfl⟩
                rw [show (w6.alloc (.cells #[.int .i64 0, .int .i64 0, .int .i64 0, .int .i64 0, .int .i64 0, .int .i64 0, .int .i64 0, .int .i64 0] 43)).drew = w7 from hw7.symm]
                have HA : Hid (Row w7 w6.heap.size 43 #[.int .i64 0, .int .i64 0, .int .i64 0, .int .i64 0, .int .i64 0, .int .i64 0, .int .i64 0, .int .i64 0]) := by show Row _ _ _ _; rw [hw7]; exact row_new w6.drew _ _
                have HBw7 : Hid (Below w6.heap.size w6 w7) := by show Below _ _ _; rw [hw7]; exact HBD.out.alloc HBD.out.size _
                have HGE : Hid (w6.heap.size ≤ w6.heap.size) := HBD.out.size
                try (have HA9 : Hid (Arr (fun b => b < w7.heap.size) w7 a9 (idTo nI)) := (by show Arr _ _ _ _; rw [hw7]; exact Arr.lifted HA9.out _ _))
                clear hw7
                refine AfterT.normal (HRR _ _ (isC ((HCC.out _).2 HBw7.out)) ?_)
                clear HRR RR
                unfold wpTree
                refine opGoal_mk (by repeat (first | with_reducible exact nth_zero | with_reducible apply nth_succ)) (by rfl) fun RR HRR => ?_
                go_wp2_with (go_at_call 39; refine (HS0.out _ (HUP.out _ (HCL.out _ (HUW.out _ HBw7.out)).2.2)).mono ?_; rintro e w8 ⟨a9, c9, rfl, ho, hb⟩; have HKA := Lib.hid hb; have HA9 : Hid (Arr (fun b => b < w8.heap.size) w8 a9 (idTo nI)) := own_arr_lt ho; have HBw8 : Hid (Below w6.heap.size w6 w8) := HBw7.out.trans (hb.mono HBw7.out.size); clear ho hb)
                refine AfterT.normal (HRR _ _ (isC ((HCC.out _).2 HBw8.out)) ?_)
                clear HRR RR
                unfold wpTree
                refine opGoal_mk (by repeat (first | with_reducible exact nth_zero | with_reducible apply nth_succ)) (by rfl) fun RR HRR => ?_
                go_wp2_with (go_at_call 40; refine (HPUT.out _ _ _ HA9.out).mono ?_; rintro e w9 ⟨rfl, hb⟩; have HBw9 : Hid (Below w6.heap.size w6 w9) := HBw8.out.trans (hb.mono HBw8.out.size); have HKB := Lib.hid hb; clear hb)
                refine AfterT.normal (HRR _ _ (isC ((HCC.out _).2 HBw9.out)) ?_)
                clear HRR RR
                have HAY : Hid (Row w9 w6.heap.size 43 #[.int .i64 0, .int .i64 0, .int .i64 0, .int .i64 0, .int .i64 0, .int .i64 0, .int .i64 0, .int .i64 0]) := (HA.out.keep (HKA.out.block _ HA.out.lt)).keep (HKB.out.block _ (Nat.lt_of_lt_of_le HA.out.lt HKA.out.size))
                refine tree_done ?_
                have HOY : Hid (Row w9 w6.heap.size 43 #[.int .i64 0, .int .i64 0, .int .i64 0, .int .i64 0, .int .i64 0, .int .i64 0, .int .i64 0, .int .i64 0]) := HAY.out
                have HYY : Hid (Row (w9.setRow w6.heap.size (insL x).toArray) w6.heap.size 43 #[.int .i64 x.Op, .int .i64 x.A, .int .i64 x.B, .int .i64 x.C, .int .i64 x.N, .int .i64 x.Exit, .int .i64 x.K.Kind, .int .i64 x.K.N]) := setRow_heap _ _ _ _ _ _ HOY.out
                have HBY : Hid (Below w6.heap.size w6 (w9.setRow w6.heap.size (insL x).toArray)) := below_setRow HBw9.out HGE.out _
                go_wp2_with (with_reducible refine stI (q := x) (OLD := #[.int .i64 0, .int .i64 0, .int .i64 0, .int .i64 0, .int .i64 0, .int .i64 0, .int .i64 0, .int .i64 0]) rfl rfl rfl rfl HOY.out rfl ?_)
                all_goals refine NoPanic.normal ?_
                all_goals go_wp2_with fail
                all_goals go_meet
                all_goals exact ⟨_, rfl, HYY.out, HBY.out, HGE.out⟩
            case rest =>
             obtain ⟨gy, rfl, hy, hbw, hgy⟩ := hcut
             have HL9 : Hid (Blk wc (gx + 1) 3 [.int .i64 (nI : Int), .int .i64 (nI : Int), .int .i64 (nI : Int)]) := HL6.out.keep (hbw.block _ HL6.out.lt)
             have HX9 : Hid (Row wc gx 43 #[.int .i64 x.Op, .int .i64 x.A, .int .i64 x.B, .int .i64 x.C, .int .i64 x.N, .int .i64 x.Exit, .int .i64 x.K.Kind, .int .i64 x.K.N]) := HX6.out.keep (hbw.block _ HX6.out.lt)
             have HB9 : Hid (Below wo.heap.size wo wc) := HB6.out.trans (hbw.mono HB6.out.size)
             have HGY : Hid (gx + 1 < gy ∧ wo.heap.size ≤ gy) := by have := HL6.out.lt; have := HGX.out; exact ⟨by omega, by omega⟩
             have HY9 := Lib.hid hy
             have y0 := HX9.out.cell (j := 0) rfl
             have y1 := HX9.out.lt
             clear hy hbw hgy HL6 HX6 HB6
             go_upto_if 187 with (go_at_call 55; refine (HVAL.out _).mono ?_; rintro e w10 ⟨rfl, hb⟩; have HBV := Lib.hid hb; clear hb)
             have HST : Hid (Row w10 gy 43 (insL (cutArgs (addG nI) (min n 0 : Nat) x)).toArray ∧ Blk w10 (gx + 1) 3 [.int .i64 (nI : Int), .int .i64 (nI : Int), .int .i64 (nI : Int)] ∧ Below wo.heap.size wo w10) := by
              refine ⟨?_, HL9.out.keep (HBV.out.block _ HL9.out.lt), HB9.out.trans (HBV.out.mono HB9.out.size)⟩
              rw [Nat.min_zero]
              exact HY9.out.keep (HBV.out.block _ HY9.out.lt)
             clear y0 y1 HX9 HB9 HL9 HY9 HBV HVAL
             go_cut [] (fun W => Row W gy 43 (insL (cutArgs (addG nI) (min n 1 : Nat) x)).toArray ∧ Blk W (gx + 1) 3 [.int .i64 (nI : Int), .int .i64 (nI : Int), .int .i64 (nI : Int)] ∧ Below wo.heap.size wo W)
             case first =>
              as_aux_lemma =>
               by_cases hc : 0 < n
               · have d1 : decide ((0 : Int) < (n : Int)) = true := by rw [decide_eq_true_eq]; omega
                 have d2 : decide (((0 : Nat) : Int) < (n : Int)) = true := by rw [decide_eq_true_eq]; omega
                 have d3 : decide ((0 : Nat) < n) = true := by rw [decide_eq_true_eq]; omega
                 have hmem : x.A ∈ [x.A, x.B, x.C].take n := by
                  rcases (show n = 1 ∨ n = 2 ∨ n = 3 by omega) with rfl | rfl | rfl <;> first | omega | simp
                 have hv := HGT.out x.A hmem
                 have hwe : IntKind.i64.wrap (x.A + (nI : Int)) = x.A + (nI : Int) := by rw [IntWalk.i64_in _ (by omega)]
                 have hm0 : min n 0 = 0 := by omega
                 have hm1 : min n 1 = 1 := by omega
                 have hst := HST.out
                 rw [hm0] at hst
                 have HRW := Lib.hid hst.1; have HBL := Lib.hid hst.2.1; have HBW := Lib.hid hst.2.2
                 have hcx : w10.cell? ⟨gy, 1, none⟩ = some (.int .i64 x.A) := hst.1.cell (j := 1) rfl
                 have hcl : w10.cell? ⟨gx + 1, 0, none⟩ = some (.int .i64 (nI : Int)) := hst.2.1.cell (j := 0) rfl
                 have hfr := hst.1.blk.frozen 1
                 have hlx := hst.1.lt
                 have hll := hst.2.1.lt
                 have HM1 := Lib.hid hm1
                 clear hst hmem hv hm0 hm1
                 have HRX : Hid (Row (w10.drew.setCell ⟨gy, 1, none⟩ (.int .i64 (x.A + (nI : Int)))) gy 43 (insL (cutArgs (addG nI) (min n 1 : Nat) x)).toArray) := by
                  show Row _ _ _ _
                  rw [HM1.out]
                  exact HRW.out.blk.set 1 (.int .i64 (x.A + (nI : Int)))
                 have HLX : Hid (Blk (w10.drew.setCell ⟨gy, 1, none⟩ (.int .i64 (x.A + (nI : Int)))) (gx + 1) 3 [.int .i64 (nI : Int), .int .i64 (nI : Int), .int .i64 (nI : Int)]) := HBL.out.keep (Go.Bk.blk_setCell_other _ _ _ (show gx + 1 ≠ gy by have := HGY.out; omega))
                 have HBX : Hid (Below wo.heap.size wo (w10.drew.setCell ⟨gy, 1, none⟩ (.int .i64 (x.A + (nI : Int))))) := below_set HBW.out.drew HGY.out.2
                 go_upto_region 53 with fail
                 go_still_tail 7, (by kernel_rfl)
                 change wpList _ _ _ _ _ w10.drew
                 go_wp2_with fail
                 all_goals go_meet
                 all_goals exact ⟨HRX.out, HLX.out, HBX.out⟩
               · have d1 : decide ((0 : Int) < (n : Int)) = false := by rw [decide_eq_false_iff_not]; omega
                 have d2 : decide (((0 : Nat) : Int) < (n : Int)) = false := by rw [decide_eq_false_iff_not]; omega
                 have d3 : decide ((0 : Nat) < n) = false := by rw [decide_eq_false_iff_not]; omega
                 have HM1 : Hid (min n 1 = min n 0) := by show _ = _; omega
                 go_wp2_with fail
                 go_meet
                 exact ⟨(by have h := HST.out.1; rw [← HM1.out] at h; exact h), HST.out.2.1, HST.out.2.2⟩
             case rest =>
              obtain ⟨w11, hw⟩ : ∃ w', w' = wc := ⟨_, rfl⟩
              rw [← hw] at hcut ⊢
              clear hw HST
              have HST := Lib.hid hcut
              clear hcut
              go_upto_if 196 with fail
              go_cut [] (fun W => Row W gy 43 (insL (cutArgs (addG nI) (min n 2 : Nat) x)).toArray ∧ Blk W (gx + 1) 3 [.int .i64 (nI : Int), .int .i64 (nI : Int), .int .i64 (nI : Int)] ∧ Below wo.heap.size wo W)
              case first =>
               as_aux_lemma =>
                by_cases hc : 1 < n
                · have d1 : decide ((1 : Int) < (n : Int)) = true := by rw [decide_eq_true_eq]; omega
                  have d2 : decide (((1 : Nat) : Int) < (n : Int)) = true := by rw [decide_eq_true_eq]; omega
                  have d3 : decide ((1 : Nat) < n) = true := by rw [decide_eq_true_eq]; omega
                  have hmem : x.B ∈ [x.A, x.B, x.C].take n := by
                   rcases (show n = 2 ∨ n = 3 by omega) with rfl | rfl <;> first | omega | simp
                  have hv := HGT.out x.B hmem
                  have hwe : IntKind.i64.wrap (x.B + (nI : Int)) = x.B + (nI : Int) := by rw [IntWalk.i64_in _ (by omega)]
                  have hm0 : min n 1 = 1 := by omega
                  have hm1 : min n 2 = 2 := by omega
                  have hst := HST.out
                  rw [hm0] at hst
                  have HRW := Lib.hid hst.1; have HBL := Lib.hid hst.2.1; have HBW := Lib.hid hst.2.2
                  have hcx : w11.cell? ⟨gy, 2, none⟩ = some (.int .i64 x.B) := hst.1.cell (j := 2) rfl
                  have hcl : w11.cell? ⟨gx + 1, 1, none⟩ = some (.int .i64 (nI : Int)) := hst.2.1.cell (j := 1) rfl
                  have hfr := hst.1.blk.frozen 2
                  have hlx := hst.1.lt
                  have hll := hst.2.1.lt
                  have HM1 := Lib.hid hm1
                  clear hst hmem hv hm0 hm1
                  have HRX : Hid (Row (w11.drew.setCell ⟨gy, 2, none⟩ (.int .i64 (x.B + (nI : Int)))) gy 43 (insL (cutArgs (addG nI) (min n 2 : Nat) x)).toArray) := by
                   show Row _ _ _ _
                   rw [HM1.out]
                   exact HRW.out.blk.set 2 (.int .i64 (x.B + (nI : Int)))
                  have HLX : Hid (Blk (w11.drew.setCell ⟨gy, 2, none⟩ (.int .i64 (x.B + (nI : Int)))) (gx + 1) 3 [.int .i64 (nI : Int), .int .i64 (nI : Int), .int .i64 (nI : Int)]) := HBL.out.keep (Go.Bk.blk_setCell_other _ _ _ (show gx + 1 ≠ gy by have := HGY.out; omega))
                  have HBX : Hid (Below wo.heap.size wo (w11.drew.setCell ⟨gy, 2, none⟩ (.int .i64 (x.B + (nI : Int))))) := below_set HBW.out.drew HGY.out.2
                  go_upto_region 55 with fail
                  go_still_tail 7, (by kernel_rfl)
                  change wpList _ _ _ _ _ w11.drew
                  go_wp2_with fail
                  all_goals go_meet
                  all_goals exact ⟨HRX.out, HLX.out, HBX.out⟩
                · have d1 : decide ((1 : Int) < (n : Int)) = false := by rw [decide_eq_false_iff_not]; omega
                  have d2 : decide (((1 : Nat) : Int) < (n : Int)) = false := by rw [decide_eq_false_iff_not]; omega
                  have d3 : decide ((1 : Nat) < n) = false := by rw [decide_eq_false_iff_not]; omega
                  have HM1 : Hid (min n 2 = min n 1) := by show _ = _; omega
                  go_wp2_with fail
                  go_meet
                  exact ⟨(by have h := HST.out.1; rw [← HM1.out] at h; exact h), HST.out.2.1, HST.out.2.2⟩
              case rest =>
               obtain ⟨w12, hw⟩ : ∃ w', w' = wc := ⟨_, rfl⟩
               rw [← hw] at hcut ⊢
               clear hw HST
               have HST := Lib.hid hcut
               clear hcut
               go_upto_if 205 with fail
               go_cut [] (fun W => Row W gy 43 (insL (cutArgs (addG nI) (min n 3 : Nat) x)).toArray ∧ Blk W (gx + 1) 3 [.int .i64 (nI : Int), .int .i64 (nI : Int), .int .i64 (nI : Int)] ∧ Below wo.heap.size wo W)
               case first =>
                as_aux_lemma =>
                 by_cases hc : 2 < n
                 · have d1 : decide ((2 : Int) < (n : Int)) = true := by rw [decide_eq_true_eq]; omega
                   have d2 : decide (((2 : Nat) : Int) < (n : Int)) = true := by rw [decide_eq_true_eq]; omega
                   have d3 : decide ((2 : Nat) < n) = true := by rw [decide_eq_true_eq]; omega
                   have hmem : x.C ∈ [x.A, x.B, x.C].take n := by
                    rcases (show n = 3 by omega) with rfl <;> first | omega | simp
                   have hv := HGT.out x.C hmem
                   have hwe : IntKind.i64.wrap (x.C + (nI : Int)) = x.C + (nI : Int) := by rw [IntWalk.i64_in _ (by omega)]
                   have hm0 : min n 2 = 2 := by omega
                   have hm1 : min n 3 = 3 := by omega
                   have hst := HST.out
                   rw [hm0] at hst
                   have HRW := Lib.hid hst.1; have HBL := Lib.hid hst.2.1; have HBW := Lib.hid hst.2.2
                   have hcx : w12.cell? ⟨gy, 3, none⟩ = some (.int .i64 x.C) := hst.1.cell (j := 3) rfl
                   have hcl : w12.cell? ⟨gx + 1, 2, none⟩ = some (.int .i64 (nI : Int)) := hst.2.1.cell (j := 2) rfl
                   have hfr := hst.1.blk.frozen 3
                   have hlx := hst.1.lt
                   have hll := hst.2.1.lt
                   have HM1 := Lib.hid hm1
                   clear hst hmem hv hm0 hm1
                   have HRX : Hid (Row (w12.drew.setCell ⟨gy, 3, none⟩ (.int .i64 (x.C + (nI : Int)))) gy 43 (insL (cutArgs (addG nI) (min n 3 : Nat) x)).toArray) := by
                    show Row _ _ _ _
                    rw [HM1.out]
                    exact HRW.out.blk.set 3 (.int .i64 (x.C + (nI : Int)))
                   have HLX : Hid (Blk (w12.drew.setCell ⟨gy, 3, none⟩ (.int .i64 (x.C + (nI : Int)))) (gx + 1) 3 [.int .i64 (nI : Int), .int .i64 (nI : Int), .int .i64 (nI : Int)]) := HBL.out.keep (Go.Bk.blk_setCell_other _ _ _ (show gx + 1 ≠ gy by have := HGY.out; omega))
                   have HBX : Hid (Below wo.heap.size wo (w12.drew.setCell ⟨gy, 3, none⟩ (.int .i64 (x.C + (nI : Int))))) := below_set HBW.out.drew HGY.out.2
                   go_upto_region 57 with fail
                   go_still_tail 7, (by kernel_rfl)
                   change wpList _ _ _ _ _ w12.drew
                   go_wp2_with fail
                   all_goals go_meet
                   all_goals exact ⟨HRX.out, HLX.out, HBX.out⟩
                 · have d1 : decide ((2 : Int) < (n : Int)) = false := by rw [decide_eq_false_iff_not]; omega
                   have d2 : decide (((2 : Nat) : Int) < (n : Int)) = false := by rw [decide_eq_false_iff_not]; omega
                   have d3 : decide ((2 : Nat) < n) = false := by rw [decide_eq_false_iff_not]; omega
                   have HM1 : Hid (min n 3 = min n 2) := by show _ = _; omega
                   go_wp2_with fail
                   go_meet
                   exact ⟨(by have h := HST.out.1; rw [← HM1.out] at h; exact h), HST.out.2.1, HST.out.2.2⟩
               case rest =>
                obtain ⟨w13, hw⟩ : ∃ w', w' = wc := ⟨_, rfl⟩
                rw [← hw] at hcut ⊢
                clear hw HST
                have HST := Lib.hid hcut
                clear hcut
                have hm3 : min n 3 = n := by omega
                have hst := HST.out
                rw [hm3] at hst
                have hrow := hst.1
                have hbw := hst.2.2
                have HTO9 : Hid (Own (fun _ => False) w13 wq.heap.size 3 v (peelTo t)) := HTO.out.below hbw (fun _ h => h.elim)
                have hpw9 : PW w2 0 go u0 u1 u2 u3 v0 v1 v2 v3 w13 vI vE0 (rpK t k 0) := HP.out.call hbw
                have HP9 := Lib.hid hpw9
                have q3 := hpw9.row.cell (j := 3) rfl
                have lq := hpw9.row.lt
                obtain ⟨z, hz⟩ : ∃ z, z = movedI nI nE x := ⟨_, rfl⟩
                have HEZ : Hid (movedI t.Ins.length t.Exits.length x = z) := by show _ = _; rw [HLI.out, HLE.out, hz]
                have lr := hrow.lt
                rw [HMC.out] at hz
                have HLEN : Hid ((rpK t k 0).Ins.length + 1 ≤ 1000000000) := by show (t.Ins ++ (t.Ins.take k).map _).length + 1 ≤ _; simp; have := HLI.out; omega
                have HBW := Lib.hid hbw
                clear HST HMC hm3 hst hbw
                have HIZ : Hid (I64 z.Op ∧ I64 z.A ∧ I64 z.B ∧ I64 z.C ∧ I64 z.N ∧ I64 z.Exit ∧ I64 z.K.Kind ∧ I64 z.K.N) := by
                 obtain ⟨h1, h2, h3, h4, h5, h6, h7⟩ := HJ.out
                 have hg : ∀ (v : Int) (j : Nat), I64 v → (j < n → v ∈ [x.A, x.B, x.C].take n) → I64 (if (j : Int) < (n : Int) then addG nI v else v) := fun v j hv hm => by
                  split
                  · have := HGT.out v (hm (by omega))
                    unfold addG I64
                    omega
                  · exact hv
                 rw [hz]
                 refine ⟨h1, hg x.A 0 h5 fun hl => ?_, hg x.B 1 h6 fun hl => ?_, hg x.C 2 h7 fun hl => ?_, h2, ?_, h3, h4⟩
                 · rcases (show n = 1 ∨ n = 2 ∨ n = 3 by omega) with rfl | rfl | rfl <;> simp
                 · rcases (show n = 2 ∨ n = 3 by omega) with rfl | rfl <;> simp
                 · rcases (show n = 3 by omega) with rfl; simp
                 · show I64 (if 0 ≤ x.Exit then x.Exit + (nE : Int) else x.Exit)
                   unfold I64
                   split <;> omega
                clear HJ HGT
                rcases hway with hm | ⟨h0, h1⟩
                · as_aux_lemma =>
                   rw [if_neg (by omega)] at hz
                   have e5 : w13.cell? ⟨gy, 5, none⟩ = some (.int .i64 (-1)) := by rw [← hm]; exact hrow.cell (j := 5) rfl
                   have HRW := Lib.hid hrow
                   clear hrow hm q3 lq hpw9
                   go_upto_region 60 with fail
                   clear e5
                   have HPZ : Hid (PW w2 0 go u0 u1 u2 u3 v0 v1 v2 v3 w13 vI vE0 (rpK t k 0)) := HP9.out
                   have HTOZ : Hid (Own (fun _ => False) w13 wq.heap.size 3 v (peelTo t)) := HTO9.out
                   have HZR : Hid (Row w13 gy 43 (insL z).toArray) := by show Row _ _ _ _; rw [hz]; exact HRW.out
                   have HOW := Lib.hid HPZ.out.ins
                   have HOB : Hid (w2.heap.size ≤ w13.heap.size) := HPZ.out.below.size
                   have HZC : Hid (∀ W, Rep.cells (fun _ => False) W [.int .i64 z.Op, .int .i64 z.A, .int .i64 z.B, .int .i64 z.C, .int .i64 z.N, .int .i64 z.Exit, .int .i64 z.K.Kind, .int .i64 z.K.N] z) := fun W => api_TIns_cells_mk (x := z) HIZ.out.1 HIZ.out.2.1 HIZ.out.2.2.1 HIZ.out.2.2.2.1 HIZ.out.2.2.2.2.1 HIZ.out.2.2.2.2.2.1 HIZ.out.2.2.2.2.2.2.1 HIZ.out.2.2.2.2.2.2.2
                   have HTW : Hid (∀ W v, PW w2 0 go u0 u1 u2 u3 v0 v1 v2 v3 W v vE0 ⟨(rpK t k 0).Fn, (rpK t k 0).At, (rpK t k 0).Loop, (rpK t k 0).Ins ++ [z], (rpK t k 0).Exits, (rpK t k 0).Turn, (rpK t k 0).Back⟩ → PW w2 0 go u0 u1 u2 u3 v0 v1 v2 v3 W v vE0 (rpK t (k + 1) 0)) := fun W v h => by
                    rw [← rpK_ins HX.out, HEZ.out]
                    exact h
                   have lz := HZR.out.lt
                   have q3 := HPZ.out.row.cell (j := 3) rfl
                   have lq := HPZ.out.row.lt
                   clear hz lr HRW HP9
                   have HZ8 : Hid (Row w13 gy 43 #[.int .i64 z.Op, .int .i64 z.A, .int .i64 z.B, .int .i64 z.C, .int .i64 z.N, .int .i64 z.Exit, .int .i64 z.K.Kind, .int .i64 z.K.N]) := HZR.out
                   have HBR := Lib.hid (buildIns_run w13 (.int .i64 z.Op) (.int .i64 z.A) (.int .i64 z.B) (.int .i64 z.C) (.int .i64 z.N) (.int .i64 z.Exit) (.int .i64 z.K.Kind) (.int .i64 z.K.N))
                   go_wp2_with (first
                    | (with_reducible refine ldI rfl rfl rfl HZ8.out rfl ?_)
                    | (with_reducible refine list_buildL (v := .agg #[.int .i64 z.Op, .int .i64 z.A, .int .i64 z.B, .int .i64 z.C, .int .i64 z.N, .int .i64 z.Exit, .int .i64 z.K.Kind, .int .i64 z.K.N]) rfl rfl (by simp [Act.eval, Act.put]) HBR.out ?_)
                    | (at_builtin; (with_reducible refine Tryd.wp_appd27 (S := fun _ => False) (v := vI) (xs := (rpK t k 0).Ins) (y := z) (cs := [.int .i64 z.Op, .int .i64 z.A, .int .i64 z.B, .int .i64 z.C, .int .i64 z.N, .int .i64 z.Exit, .int .i64 z.K.Kind, .int .i64 z.K.N]) (w0 := w13) rfl rfl (by with_unfolding_all rfl) rfl rfl (by first | rfl | omega) HOW.out (HZC.out _) (fun _ h => h.elim) HLEN.out HOB.out fun v6 w6 hown6 hg6 hst6 => ?_); obtain ⟨va, ln, vc, rfl⟩ : ∃ va ln vc, v6 = .slice va ln vc := (by obtain ⟨a, c, h, -⟩ := hown6.arr; exact ⟨a, _, c, h⟩); have HN6 := Lib.hid (HPZ.out.addI hown6 hg6 hst6); have HOX := Lib.hid (own_beside (j := 3) (u := .slice va ln vc) HTOZ.out hg6 hst6 HAP.out HGL.out); have e0 := HN6.out.2.1; have e1 := HN6.out.2.2.1; have e2 := HN6.out.2.2.2; clear hown6 hg6 hst6))
                   go_roundw
                   case rel => exact ⟨k + 1, _, by omega, by go_num, HTW.out _ _ HN6.out.1, HOX.out.1, HOX.out.2⟩
                   case measure => simp [intOf]; omega
                · as_aux_lemma =>
                   rw [if_pos h0] at hz
                   obtain ⟨e, he⟩ : ∃ e : Nat, x.Exit = e := ⟨x.Exit.toNat, by omega⟩
                   have e5 : w13.cell? ⟨gy, 5, none⟩ = some (.int .i64 (e : Int)) := by rw [← he]; exact hrow.cell (j := 5) rfl
                   have hfr := hrow.blk.frozen 5
                   have hwe : IntKind.i64.wrap ((e : Int) + (nE : Int)) = (e : Int) + (nE : Int) := by rw [IntWalk.i64_in _ (by omega)]
                   have HRW := Lib.hid hrow
                   clear hrow q3 lq hpw9
                   go_upto_region 60 with fail
                   rw [he] at hz
                   have HPZ : Hid (PW w2 0 go u0 u1 u2 u3 v0 v1 v2 v3 (w13.setCell ⟨gy, 5, none⟩ (.int .i64 ((e : Int) + (nE : Int)))) vI vE0 (rpK t k 0)) := HP.out.call (below_set HBW.out HGY.out.2)
                   have HTOZ : Hid (Own (fun _ => False) (w13.setCell ⟨gy, 5, none⟩ (.int .i64 ((e : Int) + (nE : Int)))) wq.heap.size 3 v (peelTo t)) := HTO.out.below (below_set HBW.out HGY.out.2) (fun _ h => h.elim)
                   have HZR : Hid (Row (w13.setCell ⟨gy, 5, none⟩ (.int .i64 ((e : Int) + (nE : Int)))) gy 43 (insL z).toArray) := by show Row _ _ _ _; rw [hz]; exact HRW.out.blk.set 5 (.int .i64 ((e : Int) + (nE : Int)))
                   have HOW := Lib.hid HPZ.out.ins
                   have HOB : Hid (w2.heap.size ≤ (w13.setCell ⟨gy, 5, none⟩ (.int .i64 ((e : Int) + (nE : Int)))).heap.size) := HPZ.out.below.size
                   have HZC : Hid (∀ W, Rep.cells (fun _ => False) W [.int .i64 z.Op, .int .i64 z.A, .int .i64 z.B, .int .i64 z.C, .int .i64 z.N, .int .i64 z.Exit, .int .i64 z.K.Kind, .int .i64 z.K.N] z) := fun W => api_TIns_cells_mk (x := z) HIZ.out.1 HIZ.out.2.1 HIZ.out.2.2.1 HIZ.out.2.2.2.1 HIZ.out.2.2.2.2.1 HIZ.out.2.2.2.2.2.1 HIZ.out.2.2.2.2.2.2.1 HIZ.out.2.2.2.2.2.2.2
                   have HTW : Hid (∀ W v, PW w2 0 go u0 u1 u2 u3 v0 v1 v2 v3 W v vE0 ⟨(rpK t k 0).Fn, (rpK t k 0).At, (rpK t k 0).Loop, (rpK t k 0).Ins ++ [z], (rpK t k 0).Exits, (rpK t k 0).Turn, (rpK t k 0).Back⟩ → PW w2 0 go u0 u1 u2 u3 v0 v1 v2 v3 W v vE0 (rpK t (k + 1) 0)) := fun W v h => by
                    rw [← rpK_ins HX.out, HEZ.out]
                    exact h
                   have lz := HZR.out.lt
                   have q3 := HPZ.out.row.cell (j := 3) rfl
                   have lq := HPZ.out.row.lt
                   generalize w13.setCell ⟨gy, 5, none⟩ (.int .i64 ((e : Int) + (nE : Int))) = w14 at HPZ HTOZ HZR HOW HOB lz q3 lq ⊢
                   clear e5 hfr lr hz he h0 h1 HRW HP9
                   have HZ8 : Hid (Row w14 gy 43 #[.int .i64 z.Op, .int .i64 z.A, .int .i64 z.B, .int .i64 z.C, .int .i64 z.N, .int .i64 z.Exit, .int .i64 z.K.Kind, .int .i64 z.K.N]) := HZR.out
                   have HBR := Lib.hid (buildIns_run w14 (.int .i64 z.Op) (.int .i64 z.A) (.int .i64 z.B) (.int .i64 z.C) (.int .i64 z.N) (.int .i64 z.Exit) (.int .i64 z.K.Kind) (.int .i64 z.K.N))
                   go_wp2_with (first
                    | (with_reducible refine ldI rfl rfl rfl HZ8.out rfl ?_)
                    | (with_reducible refine list_buildL (v := .agg #[.int .i64 z.Op, .int .i64 z.A, .int .i64 z.B, .int .i64 z.C, .int .i64 z.N, .int .i64 z.Exit, .int .i64 z.K.Kind, .int .i64 z.K.N]) rfl rfl (by simp [Act.eval, Act.put]) HBR.out ?_)
                    | (at_builtin; (with_reducible refine Tryd.wp_appd27 (S := fun _ => False) (v := vI) (xs := (rpK t k 0).Ins) (y := z) (cs := [.int .i64 z.Op, .int .i64 z.A, .int .i64 z.B, .int .i64 z.C, .int .i64 z.N, .int .i64 z.Exit, .int .i64 z.K.Kind, .int .i64 z.K.N]) (w0 := w14) rfl rfl (by with_unfolding_all rfl) rfl rfl (by first | rfl | omega) HOW.out (HZC.out _) (fun _ h => h.elim) HLEN.out HOB.out fun v6 w6 hown6 hg6 hst6 => ?_); obtain ⟨va, ln, vc, rfl⟩ : ∃ va ln vc, v6 = .slice va ln vc := (by obtain ⟨a, c, h, -⟩ := hown6.arr; exact ⟨a, _, c, h⟩); have HN6 := Lib.hid (HPZ.out.addI hown6 hg6 hst6); have HOX := Lib.hid (own_beside (j := 3) (u := .slice va ln vc) HTOZ.out hg6 hst6 HAP.out HGL.out); have e0 := HN6.out.2.1; have e1 := HN6.out.2.2.1; have e2 := HN6.out.2.2.2; clear hown6 hg6 hst6))
                   go_roundw
                   case rel => exact ⟨k + 1, _, by omega, by go_num, HTW.out _ _ HN6.out.1, HOX.out.1, HOX.out.2⟩
                   case measure => simp [intOf]; omega
         · obtain rfl : nI = k := by omega
           have HP := Lib.hid hpw; have HTO := Lib.hid hto
           obtain ⟨-, -, -, -, t4, -, -, -, -, -, -, -, -, lt⟩ := HCELL.out wr (HUP.out _ hpw.below)
           have HRE : Hid (t.Ins.take nI = t.Ins) := by show _ = _; rw [← HLI.out]; exact List.take_length
           clear hpw hto hap
           go_wp2_with fail
           clear t4 lt
           go_loopw [231] (fun i W => ∃ (q : Nat) (vE : Value), q ≤ nE ∧ i = .int .i64 (q : Int) ∧ PW w2 0 go u0 u1 u2 u3 v0 v1 v2 v3 W vI vE (rpK t nI q) ∧ Own (fun _ => False) W wq.heap.size 3 v (peelTo t) ∧ Apart vE v) (fun i _ => nE - (intOf i).toNat)
           case atStart => exact ⟨0, _, Nat.zero_le _, rfl, HP.out, HTO.out, HAE.out⟩
           case round =>
            clear HP HTO
            obtain ⟨q, vE, hq, rfl, hpw, hto, hap⟩ := hrel
            by_cases hlt2 : q < nE
            · as_aux_lemma =>
               obtain ⟨x, hx⟩ : ∃ x, t.Exits[q]? = some x := ⟨_, List.getElem?_eq_getElem (by rw [HLE.out]; exact hlt2)⟩
               obtain ⟨bx, ox, a2, n2, c2, a3, n3, c3, rfl, hbx, s0, s1, s2, s3, hrx⟩ := texit_at (HAL.out _ (HUP.out _ hpw.below)).exits hx
               have hbl : bx < wr.heap.size := by have := HDOM.out bx hbx; have := (HUP.out _ hpw.below).size; have := HZ1.out; omega
               have HXX := Lib.hid hx
               have hqi : (q : Int) < (nE : Int) := by omega
               have HXR : Hid (ExitR t.Ins x) := HR.out.exits x (List.mem_of_getElem? hx)
               have HRX : Hid (∀ W, Below wr.heap.size wr W → Rep.cells S W [.int .i64 x.At, .int .i64 x.Steps, .slice a2 n2 c2, .slice a3 n3 c3] x) := fun W hb => Rep.keep (fun b hb' => hb.block b (by have := HDOM.out b hb'; have := (HUP.out _ hpw.below).size; have := HZ1.out; omega)) hrx
               have HPQ := Lib.hid hpw; have HTO := Lib.hid hto; have HAP := Lib.hid hap
               clear hx hbx hrx hpw hto hap
               go_upto_region 65 with fail
               generalize hW5 : wr.alloc (.cells #[.int .i64 x.At, .int .i64 x.Steps, .slice a2 n2 c2, .slice a3 n3 c3] 32) = w5
               have HBW5 : Hid (Below wr.heap.size wr w5) := by show Below _ _ _; rw [← hW5]; exact (Below.refl _ _).alloc (Nat.le_refl _) _
               have HP5 := Lib.hid (HPQ.out.call HBW5.out)
               have HTO5 := Lib.hid (HTO.out.below HBW5.out (fun _ h => h.elim))
               have hrw := row_new wr #[.int .i64 x.At, .int .i64 x.Steps, .slice a2 n2 c2, .slice a3 n3 c3] 32
               rw [hW5] at hrw
               have HRW := Lib.hid hrw
               have HRL : Hid (wr.heap.size < w5.heap.size) := hrw.lt
               obtain ⟨y, hy⟩ : ∃ y, y = movedX nI x := ⟨_, rfl⟩
               have HY := Lib.hid hy
               have HC4 : Hid (Calls Tryd.prog 53 #[.agg #[.int .i64 x.At, .int .i64 x.Steps, .slice a2 n2 c2, .slice a3 n3 c3], .pointer (some ⟨gn, 0, none⟩)] w5.drew fun e w6 => ∃ a2' n2' c2' a3' n3' c3', e = .returned (.agg #[.int .i64 y.At, .int .i64 y.Steps, .slice a2' n2' c2', .slice a3' n3' c3']) ∧
                Rep.cells (SX 0 w2.heap.size go w6 vI vE) w6 [.int .i64 y.At, .int .i64 y.Steps, .slice a2' n2' c2', .slice a3' n3' c3'] y ∧ PW w2 0 go u0 u1 u2 u3 v0 v1 v2 v3 w6 vI vE (rpK t nI q) ∧ Below w5.heap.size w5 w6) := by
                have hgn := HNC.out _ HP5.out.below.drew
                refine (more_call (S := S) (by show 0 < w5.heap.size; have := HRL.out; omega) (HRX.out w5.drew HBW5.out.drew) (fun b hb' => by show b < w5.heap.size; have := HDOM.out b hb'; have := (HUP.out _ HP5.out.below).size; have := HZ1.out; omega) (fewX_of HXR.out) (good_of HXR.out HR.out.few hnI) hgn.1 hgn.2 hy).mono ?_
                rintro e w6 ⟨a2', n2', c2', a3', n3', c3', rfl, hr, hb⟩
                have hb' : Below w5.heap.size w5 w6 := (Below.refl _ _).drew.trans hb
                exact ⟨a2', n2', c2', a3', n3', c3', rfl, HP5.out.ready hb'.size hr, HP5.out.call hb', hb'⟩
               have HLL : Hid ((rpK t nI q).Exits.length ≤ 1000000) := by show (t.Exits ++ (t.Exits.take q).map _).length ≤ _; simp; have := HLE.out; omega
               clear hW5 hrw hy s0 s1 s2 s3 HRX hbl
               obtain ⟨C0, HCC⟩ : ∃ C0 : World → Prop, Hid (∀ W, C0 W ↔ (W.cell? ⟨go, 4, none⟩ = some vE ∧ Row W wr.heap.size 32 #[.int .i64 x.At, .int .i64 x.Steps, .slice a2 n2 c2, .slice a3 n3 c3] ∧ go < W.heap.size)) := ⟨_, fun _ => Iff.rfl⟩
               have HC0 : Hid (C0 w5.drew) := (HCC.out _).2 ⟨HP5.out.row.cell (j := 4) rfl, HRW.out, HP5.out.row.lt⟩
               have HNEC : Nonempty (HeldW C0) := ⟨⟨_, HC0.out⟩⟩
               refine wp_region_plan C0 [(true, 0), (true, 1), (true, 2), (true, 3), (false, 4), (false, 5)] 6 20 (by kernel_rfl) (by kernel_rfl) (by kernel_rfl) (by kernel_rfl) HC0.out ?_
               simp only [List.drop_succ_cons, List.drop_zero]
               have hd1 : ∀ d : HeldW C0, d.val.cell? ⟨go, 4, none⟩ = some vE := fun d => ((HCC.out _).1 d.ok).1
               have hx0 : ∀ d : HeldW C0, d.val.cell? ⟨wr.heap.size, 0, none⟩ = some (.int .i64 x.At) := fun d => ((HCC.out _).1 d.ok).2.1.cell (j := 0) rfl
               have hx1 : ∀ d : HeldW C0, d.val.cell? ⟨wr.heap.size, 1, none⟩ = some (.int .i64 x.Steps) := fun d => ((HCC.out _).1 d.ok).2.1.cell (j := 1) rfl
               have hx2 : ∀ d : HeldW C0, d.val.cell? ⟨wr.heap.size, 2, none⟩ = some (.slice a2 n2 c2) := fun d => ((HCC.out _).1 d.ok).2.1.cell (j := 2) rfl
               have hx3 : ∀ d : HeldW C0, d.val.cell? ⟨wr.heap.size, 3, none⟩ = some (.slice a3 n3 c3) := fun d => ((HCC.out _).1 d.ok).2.1.cell (j := 3) rfl
               have hxl : ∀ d : HeldW C0, wr.heap.size < d.val.heap.size := fun d => ((HCC.out _).1 d.ok).2.1.lt
               have hgl : ∀ d : HeldW C0, go < d.val.heap.size := fun d => ((HCC.out _).1 d.ok).2.2
               refine plan_quiet (by repeat (first | with_reducible exact nth_zero | with_reducible apply nth_succ)) ?_
               go_big_quiet_step (fail)
               refine wpQuiet_nil ?_
               refine plan_quiet (by repeat (first | with_reducible exact nth_zero | with_reducible apply nth_succ)) ?_
               go_big_quiet_step (fail)
               refine wpQuiet_nil ?_
               refine plan_quiet (by repeat (first | with_reducible exact nth_zero | with_reducible apply nth_succ)) ?_
               go_big_quiet_step (fail)
               refine wpQuiet_nil ?_
               refine plan_quiet (by repeat (first | with_reducible exact nth_zero | with_reducible apply nth_succ)) ?_
               go_big_quiet_step (fail)
               refine wpQuiet_nil ?_
               refine plan_op (by repeat (first | with_reducible exact nth_zero | with_reducible apply nth_succ)) (by rfl) fun RR HRR => ?_
               go_wp2_with (go_at_call 53; refine HC4.out.mono ?_; rintro e w6 ⟨a2', n2', c2', a3', n3', c3', rfl, hr6, hp6, hb6⟩; have HR6 := Lib.hid hr6; have HP6 := Lib.hid hp6; have HB6 := Lib.hid hb6; clear hr6 hp6 hb6)
               have HC6 : Hid (C0 w6) := (HCC.out _).2 ⟨HP6.out.row.cell (j := 4) rfl, HRW.out.keep (HB6.out.block _ HRW.out.lt), HP6.out.row.lt⟩
               refine AfterT.normal (HRR _ _ (isC HC6.out) ?_)
               clear HRR RR
               refine plan_op (by repeat (first | with_reducible exact nth_zero | with_reducible apply nth_succ)) (by rfl) fun RR HRR => ?_
               have HP7 := Lib.hid (HP6.out.call ((Below.refl _ _).alloc (Nat.le_refl _) (.cells #[.int .i64 y.At, .int .i64 y.Steps, .slice a2' n2' c2', .slice a3' n3' c3'] 32)))
               have HC7 : Hid (C0 (w6.alloc (.cells #[.int .i64 y.At, .int .i64 y.Steps, .slice a2' n2' c2', .slice a3' n3' c3'] 32))) := (HCC.out _).2 ⟨HP7.out.row.cell (j := 4) rfl, ((HCC.out _).1 HC6.out).2.1.keep (Below.heap_alloc _ _ _ (((HCC.out _).1 HC6.out).2.1.lt)), HP7.out.row.lt⟩
               have HBR := Lib.hid (buildX_run w6 (.int .i64 y.At) (.int .i64 y.Steps) (.slice a2' n2' c2') (.slice a3' n3' c3'))
               refine list_build (v := .agg #[.int .i64 y.At, .int .i64 y.Steps, .slice a2' n2' c2', .slice a3' n3' c3']) rfl rfl (by simp [Act.eval]) (by with_reducible exact HBR.out) (HRR _ _ (isC HC7.out) ?_)
               clear HRR RR
               simp only [Act.put, List.setIfInBounds_toArray, List.set_cons_zero, List.set_cons_succ]
               refine plan_done ?_
               clear hd1 hx0 hx1 hx2 hx3 hxl hgl
               have HO6 := Lib.hid HP6.out.exs
               have HTO6 := Lib.hid (HTO5.out.below HB6.out (fun _ h => h.elim))
               have HL6 : Hid (w2.heap.size ≤ w6.heap.size) := HP6.out.below.size
               have HSB : Hid (∀ j, SX 0 w2.heap.size go w6 vI vE j → j < w6.heap.size ∧ vE.ownBlock ≠ some j) := fun j hj => ⟨hj.2.1, hj.2.2.2.1⟩
               go_wp2_with (at_builtin; (with_reducible refine Tryd.wp_appd28 (S := SX 0 w2.heap.size go w6 vI vE) (v := vE) (xs := (rpK t nI q).Exits) (y := y) (cs := [.int .i64 y.At, .int .i64 y.Steps, .slice a2' n2' c2', .slice a3' n3' c3']) (w0 := w6) rfl rfl (by with_unfolding_all rfl) rfl rfl (by first | rfl | omega) HO6.out HR6.out HSB.out (by have := HLL.out; omega) HL6.out fun v9 w9 hown9 hg9 hst9 => ?_); obtain ⟨va, ln, vc, rfl⟩ : ∃ va ln vc, v9 = .slice va ln vc := (by obtain ⟨a, c, h, -⟩ := hown9.arr; exact ⟨a, _, c, h⟩); have HN9 := Lib.hid (HP6.out.addE hown9 hg9 hst9); have HOX := Lib.hid (own_beside (j := 4) (u := .slice va ln vc) HTO6.out hg9 hst9 HAP.out HGL.out); have e0 := HN9.out.2.1; have e1 := HN9.out.2.2.1; have e2 := HN9.out.2.2.2; clear hown9 hg9 hst9)
               all_goals refine NoPanic.normal ?_
               have HNX : Hid (PW w2 0 go u0 u1 u2 u3 v0 v1 v2 v3 (w9.setCell ⟨go, 4, none⟩ (.slice va ln vc)) vI (.slice va ln vc) (rpK t nI (q + 1))) := by
                have h := HN9.out.1
                have e : movedX t.Ins.length x = y := by rw [HLI.out, HY.out]
                rw [← rpK_exs (ki := nI) HXX.out, e]
                exact h
               go_wp2_with fail
               go_roundw
               case rel => exact ⟨q + 1, _, by omega, by go_num, HNX.out, HOX.out.1, HOX.out.2⟩
               case measure => simp [intOf]; omega
            · as_aux_lemma =>
               obtain rfl : nE = q := by omega
               obtain ⟨av, cv, hv, -, -, -⟩ := hto.arr
               subst hv
               have hbd : Below w2.heap.size w2 wr.drew := hpw.below.drew
               have hgn := HNC.out _ hbd
               obtain ⟨C0, HCC⟩ : ∃ C0 : World → Prop, Hid (∀ W, C0 W ↔ (Row W w.heap.size 34 #[.int .i64 t.Fn, .int .i64 t.At, .int .i64 t.Loop, .slice aI nI cI, .slice aE nE cE, .int .i64 t.Turn.At, .int .i64 t.Turn.Steps, .slice a7 n7 c7, .slice a8 n8 c8, .int .i64 t.Back.At, .int .i64 t.Back.Steps, .slice b7 m7 d7, .slice b8 m8 d8] ∧ W.cell? ⟨gn, 0, none⟩ = some (.int .i64 (nI : Int)) ∧ gn < W.heap.size)) := ⟨_, fun _ => Iff.rfl⟩
               have HC0 : Hid (C0 wr.drew) := (HCC.out _).2 ⟨(HRT.out _ (HUP.out _ hbd)).1, hgn⟩
               have HNEC : Nonempty (HeldW C0) := ⟨⟨_, HC0.out⟩⟩
               obtain ⟨y, hy⟩ : ∃ y, y = movedX nI t.Back := ⟨_, rfl⟩
               have HY := Lib.hid hy
               have HC4 : Hid (Calls Tryd.prog 53 #[.agg #[.int .i64 t.Back.At, .int .i64 t.Back.Steps, .slice b7 m7 d7, .slice b8 m8 d8], .pointer (some ⟨gn, 0, none⟩)] wr.drew fun e w6 => ∃ a2' n2' c2' a3' n3' c3', e = .returned (.agg #[.int .i64 y.At, .int .i64 y.Steps, .slice a2' n2' c2', .slice a3' n3' c3']) ∧
                Rep.cells (SX 0 w2.heap.size go w6 vI vE) w6 [.int .i64 y.At, .int .i64 y.Steps, .slice a2' n2' c2', .slice a3' n3' c3'] y ∧ PW w2 0 go u0 u1 u2 u3 v0 v1 v2 v3 w6 vI vE (rpK t nI nE) ∧ Below wr.heap.size wr w6) := by
                refine (more_call (S := S) (by show 0 < wr.heap.size; have := hpw.lt; omega) (HAL.out _ (HUP.out _ hbd)).back (fun b hb' => by show b < wr.heap.size; have := HDOM.out b hb'; have := (HUP.out _ hpw.below).size; have := HZ1.out; omega) (fewX_of HR.out.back) (good_of HR.out.back HR.out.few hnI) hgn.1 hgn.2 hy).mono ?_
                rintro e w6 ⟨a2', n2', c2', a3', n3', c3', rfl, hr, hb⟩
                have hb' : Below wr.heap.size wr w6 := (Below.refl _ _).drew.trans hb
                exact ⟨a2', n2', c2', a3', n3', c3', rfl, hpw.ready hb'.size hr, hpw.call hb', hb'⟩
               have HTO := Lib.hid hto
               have HPR := Lib.hid hpw
               clear hpw hto hap hbd hgn hy
               go_upto_region 67 with fail
               refine wp_region_plan C0 [(true, 0), (true, 1), (true, 2), (true, 3), (true, 4), (true, 5), (true, 7), (false, 6), (false, 8)] 9 20 (by kernel_rfl) (by kernel_rfl) (by kernel_rfl) (by kernel_rfl) HC0.out ?_
               simp only [List.drop_succ_cons, List.drop_zero]
               have hn0 : ∀ d : HeldW C0, d.val.cell? ⟨gn, 0, none⟩ = some (.int .i64 (nI : Int)) := fun d => ((HCC.out _).1 d.ok).2.1
               have hn1 : ∀ d : HeldW C0, gn < d.val.heap.size := fun d => ((HCC.out _).1 d.ok).2.2
               have hx0 : ∀ d : HeldW C0, d.val.cell? ⟨w.heap.size, 9, none⟩ = some (.int .i64 t.Back.At) := fun d => ((HCC.out _).1 d.ok).1.cell (j := 9) rfl
               have hx1 : ∀ d : HeldW C0, d.val.cell? ⟨w.heap.size, 10, none⟩ = some (.int .i64 t.Back.Steps) := fun d => ((HCC.out _).1 d.ok).1.cell (j := 10) rfl
               have hx2 : ∀ d : HeldW C0, d.val.cell? ⟨w.heap.size, 11, none⟩ = some (.slice b7 m7 d7) := fun d => ((HCC.out _).1 d.ok).1.cell (j := 11) rfl
               have hx3 : ∀ d : HeldW C0, d.val.cell? ⟨w.heap.size, 12, none⟩ = some (.slice b8 m8 d8) := fun d => ((HCC.out _).1 d.ok).1.cell (j := 12) rfl
               have hxl : ∀ d : HeldW C0, w.heap.size < d.val.heap.size := fun d => ((HCC.out _).1 d.ok).1.lt
               refine plan_quiet (by repeat (first | with_reducible exact nth_zero | with_reducible apply nth_succ)) ?_
               go_big_quiet_step (fail)
               refine wpQuiet_nil ?_
               refine plan_quiet (by repeat (first | with_reducible exact nth_zero | with_reducible apply nth_succ)) ?_
               go_big_quiet_step (fail)
               refine wpQuiet_nil ?_
               refine plan_quiet (by repeat (first | with_reducible exact nth_zero | with_reducible apply nth_succ)) ?_
               go_big_quiet_step (fail)
               refine wpQuiet_nil ?_
               refine plan_quiet (by repeat (first | with_reducible exact nth_zero | with_reducible apply nth_succ)) ?_
               go_big_quiet_step (fail)
               refine wpQuiet_nil ?_
               refine plan_quiet (by repeat (first | with_reducible exact nth_zero | with_reducible apply nth_succ)) ?_
               go_big_quiet_step (fail)
               refine wpQuiet_nil ?_
               refine plan_quiet (by repeat (first | with_reducible exact nth_zero | with_reducible apply nth_succ)) ?_
               go_big_quiet_step (fail)
               refine wpQuiet_nil ?_
               refine plan_quiet (by repeat (first | with_reducible exact nth_zero | with_reducible apply nth_succ)) ?_
               go_big_quiet_step (fail)
               refine wpQuiet_nil ?_
               refine plan_op (by repeat (first | with_reducible exact nth_zero | with_reducible apply nth_succ)) (by rfl) fun RR HRR => ?_
               go_wp2_with (go_at_call 53; refine HC4.out.mono ?_; rintro e w6 ⟨a2', n2', c2', a3', n3', c3', rfl, hr6, hp6, hb6⟩; have HR6 := Lib.hid hr6; have HP6 := Lib.hid hp6; have HB6 := Lib.hid hb6; clear hr6 hp6 hb6)
               have HBD6 : Hid (Below w2.heap.size w2 w6) := HP6.out.below
               have HC6 : Hid (C0 w6) := (HCC.out _).2 ⟨(HRT.out _ (HUP.out _ HBD6.out)).1, HNC.out _ HBD6.out⟩
               refine AfterT.normal (HRR _ _ (isC HC6.out) ?_)
               clear HRR RR
               obtain ⟨wa, hwa⟩ : ∃ W, W = w6.setCell ⟨go, 2, none⟩ (.int .i64 (nI : Int)) := ⟨_, rfl⟩
               obtain ⟨wb, hwb⟩ : ∃ W, W = (((wa.setCell ⟨go, 5, none⟩ (.int .i64 t.Back.At)).setCell ⟨go, 6, none⟩ (.int .i64 t.Back.Steps)).setCell ⟨go, 7, none⟩ (.slice b7 m7 d7)).setCell ⟨go, 8, none⟩ (.slice b8 m8 d8) := ⟨_, rfl⟩
               obtain ⟨wf, hwf⟩ : ∃ W, W = (((wb.setCell ⟨go, 9, none⟩ (.int .i64 y.At)).setCell ⟨go, 10, none⟩ (.int .i64 y.Steps)).setCell ⟨go, 11, none⟩ (.slice a2' n2' c2')).setCell ⟨go, 12, none⟩ (.slice a3' n3' c3') := ⟨_, rfl⟩
               obtain ⟨s1, s2, s3, hrow, hoth, hbel⟩ := head_cells HP6.out.row hwa hwb hwf
               have HS1 := Lib.hid s1; have HS2 := Lib.hid s2; have HS3 := Lib.hid s3
               have HSZ : Hid (w6.heap.size ≤ wf.heap.size) := by show _ ≤ _; rw [hwf, hwb, hwa]; simp
               have HBF : Hid (Below w2.heap.size w2 wf) := hbel _ HP6.out.far _ HP6.out.below
               have HTF : Hid (Own (fun _ => False) wf wq.heap.size 3 (.slice av (peelTo t).length cv) (peelTo t)) := by
                have h6 := HTO.out.below HB6.out (fun _ h => h.elim)
                exact own_same' h6 (fun b hb => hoth b (by have := (h6.lt b hb).1; have := HGL.out; omega)) (fun _ h => h.elim)
               have hbk : Rep.cells (SX w.heap.size w2.heap.size go w6 vI vE) w6 [.int .i64 t.Back.At, .int .i64 t.Back.Steps, .slice b7 m7 d7, .slice b8 m8 d8] t.Back := by
                refine Rep.mono (fun b hb => ?_) (HAL.out _ (HUP.out _ HP6.out.below)).back
                have h0 := HDOM.out b hb
                have h1 := (HUP.out _ HP6.out.below).size
                have h2 := HZ1.out; have h3 := HP6.out.far; have h4 := HGN.out
                exact ⟨by omega, by omega, fun e => by have := (HP6.out.ins.lt b e).1; omega, fun e => by have := (HP6.out.exs.lt b e).1; omega, .inl h0⟩
               have hyk : Rep.cells (SX w.heap.size w2.heap.size go w6 vI vE) w6 [.int .i64 y.At, .int .i64 y.Steps, .slice a2' n2' c2', .slice a3' n3' c3'] y := Rep.mono (fun b hb => ⟨hb.1, hb.2.1, hb.2.2.1, hb.2.2.2.1, hb.2.2.2.2.imp (fun e => by omega) id⟩) HR6.out
               have hpf := HP6.out.head (Nat.zero_le w.heap.size) hrow hoth HBF.out HSZ.out hbk hyk
               have hTQ : (⟨(rpK t nI nE).Fn, (rpK t nI nE).At, (nI : Int), (rpK t nI nE).Ins, (rpK t nI nE).Exits, t.Back, y⟩ : Api.TTrace) = twiceT t := by
                unfold rpK twiceT
                dsimp only
                rw [← HLI.out, ← HLE.out, List.take_length, List.take_length, HY.out, HLI.out]
               rw [hTQ] at hpf
               have hrep := hpf.rep HFA.out.1 HFA.out.2 (by show I64 (t.Ins.length : Int); rw [HLI.out]; unfold I64; omega)
               obtain ⟨C, hC⟩ : ∃ C : Array Value, C = #[.int .i64 (twiceT t).Fn, .int .i64 (twiceT t).At, .int .i64 (twiceT t).Loop, vI, vE, .int .i64 t.Back.At, .int .i64 t.Back.Steps, .slice b7 m7 d7, .slice b8 m8 d8, .int .i64 y.At, .int .i64 y.Steps, .slice a2' n2' c2', .slice a3' n3' c3'] := ⟨_, rfl⟩
               have hrep2 : Rep.cells (fun k => k < wf.heap.size ∧ (k < w.heap.size ∨ w2.heap.size ≤ k)) wf C.toList (twiceT t) := by rw [hC]; exact hrep
               have HROW : Hid (Row wf go 34 C) := by show Row _ _ _ _; rw [hC]; exact hpf.row
               have hsC : C.size = 13 := rep_size hrep2
               have HSC := Lib.hid hsC
               have hr2 : RightT (twiceT t) := twice_right HR.out (by rw [HLI.out]; omega) (by rw [HLE.out]; omega)
               have HCF : Hid (Calls Tryd.prog 42 #[.agg C, .slice av (peelTo t).length cv] wf fun e w' => ∃ C1 : Array Value, C1.size = 13 ∧ C1.all (·.oneCell') = true ∧ e = .returned (.tuple #[.agg C1, .bool true]) ∧ Rep.cells (Fresh wf w') w' C1.toList (peelT t) ∧ Below wf.heap.size wf w') := by
                rw [HRT9.out]
                exact rcut_out hrep2 (fun b hb => hb.1) (own_arr_lt HTF.out) (fun _ h => h) rfl hr2 ((peelTo_len t).trans (twice_len t).symm) (by rw [peelTo_len, ← twice_len]; exact peelTo_ok t) (peel_fine HR.out (by rw [HLI.out]; omega) (by rw [HLE.out]; omega))
               have HLG : Hid (go < wf.heap.size ∧ w.heap.size + 1 < go) := by
                have h1 := HP6.out.far; have h2 := HGN.out; have h3 := HROW.out.lt
                exact ⟨h3, by omega⟩
               have HZF : Hid (Row wf (w.heap.size + 1) 34 zeroTL.toArray) := (HRT.out wf (HUP.out _ HBF.out)).2
               have HBW : Hid (Below w.heap.size w wf) := HB1.out.trans ((HUP.out _ HBF.out).mono HB1.out.size)
               have HCA : Hid (C0 wa) := by
                have hne : ∀ k, k ≠ go → wa.heap[k]? = w6.heap[k]? := fun k hk => by rw [hwa]; exact blk_setCell_other _ _ _ hk
                have hg := HP6.out.far; have h2 := HGN.out
                have hc := (HCC.out _).1 HC6.out
                have hsz : wa.heap.size = w6.heap.size := by rw [hwa]; simp
                refine (HCC.out _).2 ⟨hc.1.keep (hne _ (by omega)), ?_, by omega⟩
                have h6 := hc.2.1
                rw [hwa, World.cell?_setCell_far _ _ _ _ (show go ≠ gn by omega)]
                exact h6
               clear hpf hTQ hrep hrep2 hC hr2 hrow hoth hbel hbk hyk s1 s2 s3 hwa hwb hwf
               refine plan_op (by repeat (first | with_reducible exact nth_zero | with_reducible apply nth_succ)) (by rfl) fun RR HRR => ?_
               refine list_store rfl rfl (by simp [Act.eval]) (by simp [Act.eval]) HS1.out (HRR _ _ (isC HCA.out) ?_)
               clear HRR RR
               simp only [Act.put]
               refine plan_done ?_
               clear hn0 hn1 hx0 hx1 hx2 hx3 hxl HC4
               go_wp2_with (first
                | (with_reducible refine list_store rfl rfl ?hx2 ?hy2 HS2.out ?hn2; (case hx2 => simp [Act.eval]); (case hy2 => simp [Act.eval]); simp only [Act.put])
                | (with_reducible refine list_store rfl rfl ?hx3 ?hy3 HS3.out ?hn3; (case hx3 => simp [Act.eval]); (case hy3 => simp [Act.eval]); simp only [Act.put]))
               all_goals refine NoPanic.normal ?_
               go_wp2_with (first
                | (with_reducible refine ldT rfl rfl rfl HROW.out hsC ?_)
                | (go_at_call 42; refine HCF.out.mono ?_; rintro e w7 ⟨C1, hs1, h11, rfl, hr7, hb7⟩; have HR7 := Lib.hid hr7; have HB7 := Lib.hid hb7; have H11 := Lib.hid h11; have HROW7 : Hid (Row w7 go 34 C) := HROW.out.keep (HB7.out.block _ HLG.out.1); have HROW8 : Hid (Row (w7.setRow go C1) go 34 C1) := setRow_heap _ _ _ _ _ _ HROW7.out; have HZ8 : Hid (Row (w7.setRow go C1) (w.heap.size + 1) 34 zeroTL.toArray) := (HZF.out.keep (HB7.out.block _ HZF.out.lt)).keep (setRow_other _ _ _ _ (by have := HLG.out.2; omega)); clear hr7 hb7 h11)
                | (with_reducible refine stT (OLD := C) (C := C1) rfl rfl rfl rfl HROW7.out hs1 hsC H11.out ?_)
                | (with_reducible refine ldT rfl rfl rfl HROW8.out hs1 ?_)
                | (with_reducible refine stT (OLD := zeroTL.toArray) (C := C1) rfl rfl rfl rfl HZ8.out hs1 rfl H11.out ?_))
               have HYR : Hid (Row ((w7.setRow go C1).setRow (w.heap.size + 1) C1) (w.heap.size + 1) 34 C1) := setRow_heap _ _ _ _ _ _ HZ8.out
               have hss : ((w7.setRow go C1).setRow (w.heap.size + 1) C1).heap.size = w7.heap.size := by simp [World.setRow]
               (try simp only [Exit.inBlock, Exit.then])
               have hlg := HLG.out; have hwf := HBW.out.size
               have hz1 := HZ1.out; have hz2 := HGN.out; have hbs := HBF.out.size
               have hge : w2.heap.size ≤ wf.heap.size := hbs
               refine bodyPost_ret (results_cell_row rfl _ _ _ _ _ _ _ rfl HYR.out Tryd.underlying34 rfl (infoT hs1)) rfl ?_
               unfold RefOut
               refine ⟨C1, hs1, H11.out, rfl, ?_, below_setRow (below_setRow (HBW.out.trans (HB7.out.mono hwf)) (by omega) _) (by omega) _⟩
               refine Rep.mono (fun j hj => ⟨by have := hj.1; omega, by rw [hss]; exact hj.2⟩) (Rep.keep (fun j hj => ?_) HR7.out)
               have := hj.1
               exact (setRow_other _ _ _ _ (by omega)).trans (setRow_other _ _ _ _ (by omega))
end Go.Proofs.YtekofpigmggbbaaDoor.peel
