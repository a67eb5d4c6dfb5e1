/- The document's Dead: walked. -/
import Derived.Test.YtekofpigmggbbaaDoorDeadA
import Derived.Test.YtekofpigmggbbaaDoorDeadB
import Derived.Test.YtekofpigmggbbaaDoorHeadA
import Derived.Test.YtekofpigmggbbaaDoorPassB
import Derived.Deep.DeepCutAuto
set_option linter.unusedVariables false
set_option linter.unusedSimpArgs false
namespace Go.Proofs.YtekofpigmggbbaaDoor.ded
open Go.Bk Go.RowKit Go.Proofs.YtekofpigmggbbaaDoor.ir Go.Proofs.YtekofpigmggbbaaDoor.chk Go.Proofs.YtekofpigmggbbaaDoor.cut Go.Proofs.YtekofpigmggbbaaDoor.pas
attribute [local go_sem ↓] Go.wp_at_zero Go.wp_at_succ
/-- How many are marked in a block. -/
def isT : Value → Bool
 | .bool true => true
 | _ => false
def marks (W : World) (g : Nat) : Nat := match W.heap[g]? with
 | some (.cells cs _ _) => cs.toList.countP isT
 | _ => 0
def isB : Value → Nat
 | .bool true => 1
 | _ => 0
theorem marks_blk {W : World} {g : Nat} {e : TypeId} {A : List Bool} (h : Blk W g e (boolsV A)) : marks W g = A.count true := by
 unfold marks
 rw [show W.heap[g]? = _ from h]
 show List.countP isT (boolsV A) = _
 unfold boolsV List.count
 rw [List.countP_map]
 congr 1
 funext b
 cases b <;> rfl
theorem count_le (A : List Bool) : A.count true ≤ A.length := List.count_le_length
theorem count_set {A : List Bool} {i : Nat} (h : A[i]? = some false) : (A.set i true).count true = A.count true + 1 := by
 induction A generalizing i with
 | nil => cases h
 | cons b A ih =>
   cases i with
   | zero =>
     simp at h
     subst h
     simp
   | succ i =>
     simp at h
     simp only [List.set_cons_succ, List.count_cons]
     rw [ih h]
     omega
/-- Asked for, as far as A tells. -/
def askA (t : Api.TTrace) (A : List Bool) (i : Nat) : Nat → Bool
 | 0 => false
 | k + 1 => askA t A i k || ((A[k]?).getD false && asksB t k i)
theorem askA_any {t : Api.TTrace} {A : List Bool} {i : Nat} : ∀ {n k : Nat}, k < n → A[k]? = some true → asksB t k i = true → askA t A i n = true
 | 0, k, h, _, _ => by omega
 | n + 1, k, h, h1, h2 => by
   show (askA t A i n || _) = true
   by_cases hk : k = n
   · subst hk
     rw [h1, h2]
     simp
   · rw [askA_any (show k < n by omega) h1 h2]
     rfl
theorem askA_of {t : Api.TTrace} {A : List Bool} {i : Nat} : ∀ {n : Nat}, askA t A i n = true → ∃ k, A[k]? = some true ∧ asksB t k i = true
 | 0, h => by cases h
 | n + 1, h => by
   have h : (askA t A i n || ((A[n]?).getD false && asksB t n i)) = true := h
   rw [Bool.or_eq_true, Bool.and_eq_true] at h
   rcases h with h | ⟨h1, h2⟩
   · exact askA_of h
   · refine ⟨n, ?_, h2⟩
     cases hn : A[n]? with
     | none => rw [hn] at h1; cases h1
     | some b => rw [hn] at h1; cases b with
       | false => cases h1
       | true => rfl
/-- The rule for one instruction. -/
def ruleB (t : Api.TTrace) (A : List Bool) (i : Nat) (x : Api.TIns) : Bool := ((firmB t i x || (namesB t.Turn i || namesB t.Back i)) || t.Exits.any (fun e => namesB e i)) || askA t A i t.Ins.length
theorem rule_of {t : Api.TTrace} {A : List Bool} {i : Nat} {x : Api.TIns} (hn : A.length ≤ t.Ins.length) (h : (firmB t i x = true ∨ endB t i = true) ∨ ∃ k, A[k]? = some true ∧ asksB t k i = true) : ruleB t A i x = true := by
 unfold ruleB
 rcases h with (h | h) | ⟨k, h1, h2⟩
 · rw [h]; rfl
 · unfold endB at h
   rw [Bool.or_eq_true] at h
   rcases h with h | h
   · rw [h]; simp
   · rw [h]; simp
 · rw [askA_any (show k < t.Ins.length from Nat.lt_of_lt_of_le (List.getElem?_eq_some_iff.1 h1).1 hn) h1 h2, Bool.or_true]
theorem rule_keep {t : Api.TTrace} (hr : RightT t) {A : List Bool} {i : Nat} {x : Api.TIns} (hx : t.Ins[i]? = some x) (hA : ∀ j, A[j]? = some true → keepB t j = true) (h : ruleB t A i x = true) : keepB t i = true := by
 refine keep_of hr hx ?_
 unfold ruleB at h
 rw [Bool.or_eq_true, Bool.or_eq_true, Bool.or_eq_true] at h
 rcases h with ((h | h) | h) | h
 · exact Or.inl (Or.inl h)
 · refine Or.inl (Or.inr ?_); unfold endB; rw [h]; simp
 · refine Or.inl (Or.inr ?_); unfold endB; rw [h]; rfl
 · obtain ⟨k, h1, h2⟩ := askA_of h
   exact Or.inr ⟨k, hA k h1, h2⟩
/-- Where the rule asks for nobody more, just those that are kept are marked. -/
theorem closed_keep {t : Api.TTrace} (hr : RightT t) {A : List Bool} {n : Nat} (hn : t.Ins.length = n) (hl : A.length = n) (hA : ∀ j, A[j]? = some true → keepB t j = true) (hc : ∀ j x, t.Ins[j]? = some x → ruleB t A j x = true → A[j]? = some true) : ∀ j, j < n → A[j]? = some (keepB t j) := by
 intro j hj
 have h := dead_least hr (A := fun j => decide (A[j]? = some true)) (fun j h => hA j (of_decide_eq_true h)) (fun j x hx h => decide_eq_true (hc j x hx (rule_of (by omega) (h.imp id fun ⟨k, h1, h2⟩ => ⟨k, of_decide_eq_true h1, h2⟩)))) j (by omega)
 obtain ⟨b, hb⟩ : ∃ b, A[j]? = some b := ⟨_, List.getElem?_eq_getElem (by omega)⟩
 rw [hb]
 have h' : decide (A[j]? = some true) = keepB t j := h
 rw [hb] at h'
 cases b with
 | true => rw [← h']; simp
 | false => rw [← h']; simp
/-- The numbers while they are made: the first k of n. -/
def dtoI (t : Api.TTrace) (n k : Nat) : List Int := (List.range n).map fun j => if j < k then (if keepB t j then (j : Int) else -1) else (j : Int)
theorem dtoI_len (t : Api.TTrace) (n k : Nat) : (dtoI t n k).length = n := by simp [dtoI]
theorem dtoI_zero (t : Api.TTrace) (n : Nat) : dtoI t n 0 = idTo n := by
 unfold dtoI idTo
 apply List.map_congr_left
 intro j hj
 rw [if_neg (by omega)]
theorem dtoI_at {t : Api.TTrace} {n k : Nat} (h : k < n) : (dtoI t n k)[k]? = some (k : Int) := by simp [dtoI, h]
theorem dtoI_yes {t : Api.TTrace} {n k : Nat} (h : keepB t k = true) : dtoI t n (k + 1) = dtoI t n k := by
 unfold dtoI
 apply List.map_congr_left
 intro j hj
 by_cases h1 : j < k
 · rw [if_pos (by omega), if_pos h1]
 · rw [if_neg h1]
   by_cases h2 : j = k
   · subst h2
     rw [if_pos (by omega), if_pos h]
   · rw [if_neg (by omega)]
theorem dtoI_no {t : Api.TTrace} {n k : Nat} (h : keepB t k = false) : (dtoI t n k).set k (-1) = dtoI t n (k + 1) := by
 apply List.ext_getElem
 · simp [dtoI]
 · intro i h1 h2
   rw [List.getElem_set]
   by_cases h3 : k = i
   · subst h3
     simp [dtoI, h]
   · rw [if_neg h3]
     simp only [dtoI, List.getElem_map, List.getElem_range]
     by_cases h4 : i < k
     · rw [if_pos h4, if_pos (Nat.lt_succ_of_lt h4)]
     · rw [if_neg h4, if_neg (by omega)]
theorem dtoI_all (t : Api.TTrace) : dtoI t t.Ins.length t.Ins.length = deadTo t := by
 unfold dtoI deadTo
 apply List.map_congr_left
 intro j hj
 rw [if_pos (by simpa using hj)]
/-- The trace in its box, its rows its own, whatever is marked. -/
structure DD (w : World) (C : Array Value) (B : Nat) (t : Api.TTrace) (W : World) : Prop where
 box : Row W w.heap.size 34 C
 res : Row W (w.heap.size + 1) 34 zeroTL.toArray
 own : OwnT B W C.toList t
 far : w.heap.size + 2 ≤ B
 below : Below w.heap.size w W
theorem DD.call {w W W' : World} {C : Array Value} {B : Nat} {t : Api.TTrace} (h : DD w C B t W) (hb : Below W.heap.size W W') : DD w C B t W' :=
 ⟨h.box.keep (hb.block _ h.box.lt), h.res.keep (hb.block _ h.res.lt), h.own.keep (fun k _ hk => hb.block k hk) hb.size, h.far, h.below.trans (hb.mono h.below.size)⟩
/-- What is known of a trace whose instructions, exits and ends are read. -/
theorem DD.all {w W : World} {C : Array Value} {B : Nat} {t : Api.TTrace} (h : DD w C B t W) (h1 : I64 t.Fn) (h2 : I64 t.At) (h3 : I64 t.Loop) : Rep.cells (fun k => k < W.heap.size) W C.toList t := Rep.mono (fun k hk => hk.2) (OwnT.rep h.own h1 h2 h3)
set_option maxRecDepth 100000 in
set_option maxHeartbeats 8000000 in
theorem rdead_any {S : Nat → Prop} {w : World} {T : Array Value} {t : Api.TTrace} (ht : Rep.cells S w T.toList t) (hS : ∀ b, S b → b < w.heap.size) (hr : RightT t) :
 Calls Tryd.prog 18 #[.agg T] w (RefOut w (cutT (bareT t) (deadTo (bareT t)))) := by
 obtain ⟨nI, hnI⟩ : ∃ n, n = t.Ins.length := ⟨_, rfl⟩
 obtain ⟨nE, hnE⟩ : ∃ n, n = t.Exits.length := ⟨_, rfl⟩
 have hsT : T.size = 13 := rep_size ht
 have hfi : nI ≤ 300 := by rw [hnI]; exact hr.few
 have hfe : nE ≤ 200 := by rw [hnE]; exact hr.fewE
 have HFA : Hid (I64 t.Fn ∧ I64 t.At ∧ I64 t.Loop) := by obtain ⟨_, _, ⟨rfl, h0⟩, ⟨_, _, ⟨rfl, h1⟩, ⟨_, _, ⟨rfl, h2⟩, _, _⟩, _⟩, _⟩ := ht; exact ⟨h0, h1, h2⟩
 obtain ⟨w1, hw1⟩ : ∃ w1, w1 = (w.alloc (.cells T 34)).alloc (.cells #[.int .i64 0, .int .i64 0, .int .i64 0, .slice none 0 0, .slice none 0 0, .int .i64 0, .int .i64 0, .slice none 0 0, .slice none 0 0, .int .i64 0, .int .i64 0, .slice none 0 0, .slice none 0 0] 34) := ⟨_, rfl⟩
 obtain ⟨rT, rC, hb1, hz1⟩ := rows2 w T #[.int .i64 0, .int .i64 0, .int .i64 0, .slice none 0 0, .slice none 0 0, .int .i64 0, .int .i64 0, .slice none 0 0, .slice none 0 0, .int .i64 0, .int .i64 0, .slice none 0 0, .slice none 0 0] _ _ w1 hw1
 have HRT := Lib.hid rT
 have HRS : Hid (Row w1 (w.heap.size + 1) 34 zeroTL.toArray) := rC
 have HB1 := Lib.hid hb1
 have HZ1 : Hid (w1.heap.size = w.heap.size + 2) := hz1
 have HTE : Hid (∀ W, Below w1.heap.size w1 W → Rep.cells S W T.toList t ∧ ∀ b, S b → b < W.heap.size) := fun W hb =>
  ⟨Rep.keep (fun b hb' => (hb.block b (Nat.lt_of_lt_of_le (hS b hb') hb1.size)).trans (hb1.block b (hS b hb'))) ht, fun b hb' => Nat.lt_of_lt_of_le (hS b hb') (Nat.le_trans hb1.size hb.size)⟩
 have HNI := Lib.hid hnI; have HNE := Lib.hid hnE
 have HR := Lib.hid hr
 have HS0 : Hid (∀ W, Below w1.heap.size w1 W → Calls Tryd.prog 39 #[.agg T] W fun e w' => ∃ v, e = .returned v ∧ Own (fun _ => False) w' (W.heap.size + 1) 3 v (idTo nI) ∧ Below W.heap.size W w') := fun W hb => by
  rw [HNI.out]
  exact same0_any (HTE.out W hb).1 (HTE.out W hb).2 (by rw [← HNI.out]; omega)
 clear ht hS rT rC hb1 hr hz1 hnI hnE
 go_enter Tryd.func18, Tryd.ntmps18
 go_upto_region 1 with fail
 rw [← hw1]
 clear hw1
 go_cut [] (fun W => ∃ (C : Array Value) (B : Nat), C.size = 13 ∧ C.all (·.oneCell') = true ∧ DD w C B t W)
 case first =>
  as_aux_lemma =>
   obtain ⟨C0, HCC⟩ : ∃ C0 : World → Prop, Hid (∀ W, C0 W ↔ Below w1.heap.size w1 W) := ⟨_, fun _ => Iff.rfl⟩
   have HC0 : Hid (C0 w1.drew) := (HCC.out _).2 (Below.refl _ _).drew
   have HNEC : Nonempty (HeldW C0) := ⟨⟨_, HC0.out⟩⟩
   have HDT : Hid (∀ W, (∃ d : HeldW C0, W = d.val) → Row W w.heap.size 34 T) := fun W ⟨d, hd⟩ => by rw [hd]; exact HRT.out.keep (((HCC.out _).1 d.ok).block _ HRT.out.lt)
   refine wp_region_planA C0 [(true, 0), (true, 1), (false, 2)] 3 20 (.one 4 (.two 5 (.two 6 (.one 7 .fin) 7 (.one 6 .fin)) 6 (.one 5 (.one 7 .fin)))) (by kernel_rfl) (by kernel_rfl) (by kernel_rfl) (by kernel_rfl) HC0.out ?_
   refine planA_quiet (by repeat (first | with_reducible exact nth_zero | with_reducible apply nth_succ)) ?_
   go_big_quiet_want
   (first | (with_reducible refine qldT rfl rfl HDT.out hsT ?_; simp only [Act.put, List.setIfInBounds_toArray, List.set_cons_succ, List.set_cons_zero]))
   go_big_quiet_on
   refine wpQuiet_nil ?_
   refine planA_quiet (by repeat (first | with_reducible exact nth_zero | with_reducible apply nth_succ)) ?_
   go_big_quiet_want
   (first | (with_reducible refine qldT rfl rfl HDT.out hsT ?_; simp only [Act.put, List.setIfInBounds_toArray, List.set_cons_succ, List.set_cons_zero]))
   go_big_quiet_on
   refine wpQuiet_nil ?_
   refine planA_op (by repeat (first | with_reducible exact nth_zero | with_reducible apply nth_succ)) (by rfl) fun RR HRR => ?_
   go_wp2_with (go_at_call 39; refine (HS0.out _ ((HCC.out _).1 HC0.out)).mono ?_; rintro e w3 ⟨v3, rfl, ho3, hb3⟩; have HO3 := Lib.hid ho3; have HB3 : Hid (Below w1.heap.size w1 w3) := (Below.refl _ _).drew.trans hb3; clear ho3 hb3)
   refine AfterT.normal (HRR _ _ (isC ((HCC.out _).2 HB3.out)) ?_)
   clear HRR RR
   obtain ⟨a3, c3, hv3, -, -, harr3⟩ := HO3.out.arr
   rw [idTo_len] at hv3
   subst hv3
   have HCU : Hid (Calls Tryd.prog 42 #[.agg T, .slice a3 nI c3] w3 fun e w' => ∃ C : Array Value, C.size = 13 ∧ C.all (·.oneCell') = true ∧ e = .returned (.tuple #[.agg C, .bool true]) ∧ Rep.cells (Fresh w3 w') w' C.toList (cutT t (idTo nI)) ∧ Below w3.heap.size w3 w' ∧ OwnT w3.heap.size w' C.toList (cutT t (idTo nI))) := by
    have hok : toOk (idTo nI) (idTo nI).length = true := by rw [idTo_len]; exact idTo_ok nI nI (Nat.le_refl _)
    have hfin : fineT t (idTo nI) = true := by
     refine fineT_of HR.out (by rw [← HNI.out]; exact idTo_ok nI nI (Nat.le_refl _)) fun k x n hx htl hn => ?_
     have hl := (List.getElem?_eq_some_iff.1 hx).1
     rw [idTo_at (by rw [HNI.out]; exact hl)] at hn
     obtain rfl := Option.some.inj hn
     exact ⟨by omega, x, by simpa using hx, htl⟩
    exact rcut_own (HTE.out w3 HB3.out).1 (HTE.out w3 HB3.out).2 harr3 (fun b hb' => hb'.elim False.elim (·.2)) (idTo_len nI) HR.out (by rw [idTo_len, ← HNI.out]) hok hfin
   have hcid : cutT t (idTo nI) = t := by rw [HNI.out]; exact cut_id HR.out
   rw [hcid] at HCU
   clear hcid harr3
   refine planA_t (by repeat (first | with_reducible exact nth_zero | with_reducible apply nth_succ)) (by rfl) fun RR HRR => ?_
   go_wp2_with (go_at_call 42; refine HCU.out.mono ?_; rintro e w4 ⟨C, hC1, hC2, rfl, -, hb4, ho4⟩; have HC1 := Lib.hid hC1; have HC2 := Lib.hid hC2; have HO4 := Lib.hid ho4; have HB4 : Hid (Below w1.heap.size w1 w4) := HB3.out.trans (hb4.mono HB3.out.size); have HZ3 : Hid (w.heap.size + 2 ≤ w3.heap.size ∧ w3.heap.size ≤ w4.heap.size) := (by rw [← HZ1.out]; exact ⟨HB3.out.size, hb4.size⟩); clear hC1 hC2 ho4 hb4)
   refine AfterT.normal (HRR _ _ ?_)
   clear HRR RR HCU
   have HRT4 : Hid (Row w4 w.heap.size 34 T) := HRT.out.keep (HB4.out.block _ HRT.out.lt)
   have HDD : Hid (DD w C w3.heap.size t (w4.setRow w.heap.size C)) := by
    have hlt := HZ3.out
    refine ⟨setRow_heap _ _ _ _ _ _ HRT4.out, (HRS.out.keep (HB4.out.block _ HRS.out.lt)).keep (setRow_other _ _ _ _ (by omega)), HO4.out.keep (fun k hk _ => setRow_other _ _ _ _ (by omega)) (by simp [World.setRow]), hlt.1, below_setRow (HB1.out.trans (HB4.out.mono HB1.out.size)) (Nat.le_refl _) _⟩
   refine aft_one (by repeat (first | with_reducible exact nth_zero | with_reducible apply nth_succ)) (by rfl) fun RR HRR => ?_
   go_wp2_with fail
   refine AfterT.normal (HRR _ _ ?_)
   clear HRR RR
   generalize hW5 : w4.setRow w.heap.size C = w5 at HDD
   have HW5 := Lib.hid hW5
   clear hW5
   refine aft_two (by repeat (first | with_reducible exact nth_zero | with_reducible apply nth_succ)) (by rfl) (by repeat (first | with_reducible exact nth_zero | with_reducible apply nth_succ)) (by rfl) (fun RR HRR => ?_) (fun RR HRR => ?_)
   · skip
     go_wp2_with fail
     refine AfterT.normal (HRR _ _ ?_)
     clear HRR RR
     refine aft_two (by repeat (first | with_reducible exact nth_zero | with_reducible apply nth_succ)) (by rfl) (by repeat (first | with_reducible exact nth_zero | with_reducible apply nth_succ)) (by rfl) (fun RR HRR => ?_) (fun RR HRR => ?_)
     · skip
       go_wp2_with fail
       refine AfterT.normal (HRR _ _ ?_)
       clear HRR RR
       refine aft_one (by repeat (first | with_reducible exact nth_zero | with_reducible apply nth_succ)) (by rfl) fun RR HRR => ?_
       go_wp2_with (with_reducible refine stT (OLD := T) (C := C) rfl rfl rfl rfl HRT4.out HC1.out (by rw [hsT]) HC2.out ?_)
       refine AfterT.normal (HRR _ _ ?_)
       clear HRR RR
       rw [HW5.out]
       refine aft_fin (NoPanic.normal ?_)
       (go_wp2_with fail; go_meet; exact ⟨C, w3.heap.size, HC1.out, HC2.out, HDD.out⟩)
     · skip
       go_wp2_with (with_reducible refine stT (OLD := T) (C := C) rfl rfl rfl rfl HRT4.out HC1.out (by rw [hsT]) HC2.out ?_)
       refine AfterT.normal (HRR _ _ ?_)
       clear HRR RR
       rw [HW5.out]
       refine aft_one (by repeat (first | with_reducible exact nth_zero | with_reducible apply nth_succ)) (by rfl) fun RR HRR => ?_
       go_wp2_with fail
       refine AfterT.normal (HRR _ _ ?_)
       clear HRR RR
       refine aft_fin (NoPanic.normal ?_)
       (go_wp2_with fail; go_meet; exact ⟨C, w3.heap.size, HC1.out, HC2.out, HDD.out⟩)
   · skip
     go_wp2_with fail
     refine AfterT.normal (HRR _ _ ?_)
     clear HRR RR
     refine aft_one (by repeat (first | with_reducible exact nth_zero | with_reducible apply nth_succ)) (by rfl) fun RR HRR => ?_
     go_wp2_with fail
     refine AfterT.normal (HRR _ _ ?_)
     clear HRR RR
     refine aft_one (by repeat (first | with_reducible exact nth_zero | with_reducible apply nth_succ)) (by rfl) fun RR HRR => ?_
     go_wp2_with (with_reducible refine stT (OLD := T) (C := C) rfl rfl rfl rfl HRT4.out HC1.out (by rw [hsT]) HC2.out ?_)
     refine AfterT.normal (HRR _ _ ?_)
     clear HRR RR
     rw [HW5.out]
     refine aft_fin (NoPanic.normal ?_)
     (go_wp2_with fail; go_meet; exact ⟨C, w3.heap.size, HC1.out, HC2.out, HDD.out⟩)
 case rest =>
  obtain ⟨C, B, hsC, hC2, hdd⟩ := hcut
  obtain ⟨w5, hw5⟩ : ∃ w5 : World, w5 = wc := ⟨_, rfl⟩
  rw [← hw5] at hdd ⊢
  clear hw5 HS0 HTE HRT HRS HB1 HZ1
  have HC2 := Lib.hid hC2
  have HDD := Lib.hid hdd
  obtain ⟨aI, nI', cI, aE, nE', cE, a7, n7, c7, a8, n8, c8, b7, m7, d7, b8, m8, d8, hall⟩ := tall_of (hdd.all HFA.out.1 HFA.out.2.1 HFA.out.2.2)
  obtain rfl : nI' = nI := by rw [← hall.lenI, HNI.out]
  obtain rfl : nE' = nE := by rw [← hall.lenE, HNE.out]
  have HAL : Hid (∀ W, Below w5.heap.size w5 W → TAll (fun k => k < w5.heap.size) W C t aI nI' cI aE nE' cE a7 n7 c7 a8 n8 c8 b7 m7 d7 b8 m8 d8 ∧ DD w C B t W) := fun W hb => ⟨hall.keep fun k hk => hb.block k hk, hdd.call hb⟩
  have HEQ := Lib.hid hall.eq
  have HI3 : Hid (C.toList[3]? = some (.slice aI nI' cI)) := by show _ = _; rw [hall.eq]; rfl
  have HI4 : Hid (C.toList[4]? = some (.slice aE nE' cE)) := by show _ = _; rw [hall.eq]; rfl
  have c4 := hdd.box.cell HI4.out
  have lb := hdd.box.lt
  have hfI := hall.fewI; have hfE := hall.fewE
  clear hdd hall hC2
  go_upto_region 3 with (with_reducible refine wp_make (n := nE') rfl rfl Tryd.underlying87 Tryd.info4 rfl rfl rfl (by omega) (by unfold maxLen; omega) fun w6 hblk hbel hsz => ?_; have HU0 := Lib.hid hblk; have HB6 := Lib.hid hbel; clear hblk hbel)
  have HU6 : Hid (Blk w6 w5.heap.size 4 (boolsV (usedL t nE' 0))) := by show Blk _ _ _ _; rw [usedL_zero]; exact blk_false HU0.out
  clear HU0
  have c3 := (HAL.out w6 HB6.out).2.box.cell HI3.out
  have lb6 := (HAL.out w6 HB6.out).2.box.lt
  have HZ6 := Lib.hid hsz
  obtain ⟨gu, hgu⟩ : ∃ g, g = w5.heap.size := ⟨_, rfl⟩
  rw [← hgu] at HU6 ⊢
  have HGU := Lib.hid hgu
  clear c4 lb hsz hgu
  go_wp2_with fail
  clear c3 lb6
  go_loopw [34] (fun i W => ∃ k : Nat, k ≤ nI' ∧ i = .int .i64 k ∧ Blk W gu 4 (boolsV (usedL t nE' k)) ∧ Below w5.heap.size w5 W) (fun i _ => nI' - (intOf i).toNat)
  case atStart => exact ⟨0, Nat.zero_le _, rfl, HU6.out, HB6.out⟩
  case round =>
   clear HU6 HB6 HZ6
   obtain ⟨k, hk, rfl, hblk, hbr⟩ := hrel
   by_cases hlt : k < nI'
   · as_aux_lemma =>
      obtain ⟨x, hx⟩ : ∃ x, t.Ins[k]? = some x := ⟨_, List.getElem?_eq_getElem (by rw [← HNI.out]; exact hlt)⟩
      obtain ⟨hal, hdr⟩ := HAL.out wr hbr
      obtain ⟨bi, oi, rfl, hSi, i0, i1, i2, i3, i4, i5, i6, i7, -⟩ := api_TIns_elem hal.ins hx
      have hbi : bi < wr.heap.size := Nat.lt_of_lt_of_le hSi hbr.size
      have hki : (k : Int) < (nI' : Int) := by omega
      obtain ⟨w7, hw7⟩ : ∃ w7, w7 = wr.alloc (.cells #[.int .i64 x.Op, .int .i64 x.A, .int .i64 x.B, .int .i64 x.C, .int .i64 x.N, .int .i64 x.Exit, .int .i64 x.K.Kind, .int .i64 x.K.N] 43) := ⟨_, rfl⟩
      have hb7 : Below wr.heap.size wr w7 := by rw [hw7]; exact cod.below_al2 _
      have hrow := row_new wr #[.int .i64 x.Op, .int .i64 x.A, .int .i64 x.B, .int .i64 x.C, .int .i64 x.N, .int .i64 x.Exit, .int .i64 x.K.Kind, .int .i64 x.K.N] 43
      rw [← hw7] at hrow
      have z5 := hrow.cell (j := 5) rfl
      have lz := hrow.lt
      have HB7 : Hid (Below w5.heap.size w5 w7) := hbr.trans (hb7.mono hbr.size)
      have HBK : Hid (Blk w7 gu 4 (boolsV (usedL t nE' k))) := hblk.keep (hb7.block _ hblk.lt)
      have HX := Lib.hid hx
      have hway := HR.out.way k x hx
      clear hblk hbr hal hdr hx hSi hrow hb7
      go_upto_region 6 with fail
      rw [← hw7]
      clear hw7 i0 i1 i2 i3 i4 i5 i6 i7 hbi
      rcases hway with hm | ⟨h0, h1⟩
      · rw [hm] at z5
        have HNX : Hid (Blk w7 gu 4 (boolsV (usedL t nE' (k + 1)))) := by show Blk _ _ _ _; rw [usedL_no HX.out (by omega)]; exact HBK.out
        clear hm
        go_wp2_with fail
        go_roundw
        case rel => exact ⟨k + 1, by omega, by go_num, HNX.out, HB7.out⟩
        case measure => simp [intOf]; omega
      · obtain ⟨e, he⟩ : ∃ e : Nat, x.Exit = e := ⟨x.Exit.toNat, by omega⟩
        rw [he] at z5
        have hen : e < nE' := by rw [HNE.out]; omega
        have hei : (e : Int) < (nE' : Int) := by omega
        have m0 := HBK.out.cell (boolsV_get (usedL_at (t := t) (k := k) hen))
        have m1 := HBK.out.frozen e
        have m2 := HBK.out.lt
        have HNX : Hid (Blk (w7.setCell ⟨gu, e, none⟩ (.bool true)) gu 4 (boolsV (usedL t nE' (k + 1)))) := by
         show Blk _ _ _ _
         rw [← usedL_set HX.out he, ← boolsV_set]
         exact HBK.out.set e (.bool true)
        have HWX : Hid (Below w5.heap.size w5 (w7.setCell ⟨gu, e, none⟩ (.bool true))) := below_set HB7.out (by rw [HGU.out]; exact Nat.le_refl _)
        clear he h0 h1 hen
        go_wp2_with fail
        go_roundw
        case rel => exact ⟨k + 1, by omega, by go_num, HNX.out, HWX.out⟩
        case measure => simp [intOf]; omega
   · obtain rfl : nI' = k := by omega
     have HUS : Hid (Blk wr gu 4 (boolsV (usedL t nE' t.Ins.length))) := by show Blk _ _ _ _; rw [← HNI.out]; exact hblk
     have HDR := Lib.hid (HAL.out wr hbr).2
     have HGL : Hid (∀ g n c, C.toList[4]? = some (.slice (some ⟨g, 0, none⟩) n c) → 0 < nE' → g ≠ gu) := fun g n c h hn => by
      obtain ⟨x0, hx0⟩ : ∃ x, t.Exits[0]? = some x := ⟨_, List.getElem?_eq_getElem (by rw [← HNE.out]; exact hn)⟩
      obtain ⟨g', cap, e1, -, e3, -⟩ := OwnT.bare HDD.out.own hx0
      rw [e1] at h
      have h := Option.some.inj h
      injection h with h
      injection h with h
      injection h with h
      rw [← h, HGU.out]
      omega
     have t4 := (HAL.out wr hbr).2.box.cell HI4.out
     have l4 := (HAL.out wr hbr).2.box.lt
     clear hblk hbr hk hlt
     go_wp2_with fail
     clear t4 l4
     go_loopw [49] (fun i W => ∃ k : Nat, k ≤ nE' ∧ i = .int .i64 k ∧ Blk W gu 4 (boolsV (usedL t nE' t.Ins.length)) ∧ DD w C B (bareL t k) W) (fun i _ => nE' - (intOf i).toNat)
     case atStart => exact ⟨0, Nat.zero_le _, rfl, HUS.out, by rw [bareL_zero]; exact HDR.out⟩
     case round =>
      clear HUS HDR
      obtain ⟨q, hq, rfl, hblk, hdd⟩ := hrel
      by_cases hlt : q < nE'
      · as_aux_lemma =>
         obtain ⟨x, hx⟩ : ∃ x, t.Exits[q]? = some x := ⟨_, List.getElem?_eq_getElem (by rw [← HNE.out]; exact hlt)⟩
         obtain ⟨us, hus⟩ : ∃ b, b = usedE t.Ins q := ⟨_, rfl⟩
         have m0 := hblk.cell (boolsV_get (usedL_all (t := t) hlt))
         have m2 := hblk.lt
         rw [← hus] at m0
         have hqi : (q : Int) < (nE' : Int) := by omega
         have HBK := Lib.hid hblk
         have HDQ := Lib.hid hdd
         cases us with
         | true =>
           have HEX : Hid (bareL t (q + 1) = bareL t q) := by show _ = _; unfold bareL; rw [exL_yes hus.symm]
           clear hblk hdd hx hus
           go_wp2_with fail
           go_roundw
           case rel => exact ⟨q + 1, by omega, by go_num, HBK.out, by rw [HEX.out]; exact HDQ.out⟩
           case measure => simp [intOf]; omega
         | false =>
           obtain ⟨g, cap, e4, hBg, hgl, hfr, ⟨u2, g2⟩, ⟨u3, g3⟩, hown⟩ := OwnT.bare (W := wr.drew) (hdd.own.keep (fun _ _ _ => rfl) (Nat.le_refl _)) (show (bareL t q).Exits[q]? = some x from exL_at hx)
           have hEx : (⟨t.Fn, t.At, t.Loop, t.Ins, (exL t q).set q ⟨x.At, x.Steps, [], []⟩, t.Turn, t.Back⟩ : Api.TTrace) = bareL t (q + 1) := by unfold bareL; rw [exL_no hx hus.symm]
           have hown : OwnT B ((wr.drew.setCell ⟨g, q * 4 + 2, none⟩ (.slice none 0 0)).setCell ⟨g, q * 4 + 3, none⟩ (.slice none 0 0)) C.toList (bareL t (q + 1)) := by rw [← hEx]; exact hown
           rw [HI4.out] at e4
           have e4 := Option.some.inj e4
           injection e4 with e4 e5 e6
           have hgu := HGL.out g nE' cE (by rw [HI4.out, e4]) (by omega)
           subst e4
           have HDN : Hid (DD w C B (bareL t (q + 1)) ((wr.drew.setCell ⟨g, q * 4 + 2, none⟩ (.slice none 0 0)).setCell ⟨g, q * 4 + 3, none⟩ (.slice none 0 0))) := by
            have hf := hdd.far
            have k1 : ∀ b, b ≠ g → ((wr.drew.setCell ⟨g, q * 4 + 2, none⟩ (.slice none 0 0)).setCell ⟨g, q * 4 + 3, none⟩ (.slice none 0 0)).heap[b]? = wr.heap[b]? := fun b hb => (Go.Bk.blk_setCell_other _ _ _ hb).trans (Go.Bk.blk_setCell_other _ _ _ hb)
            exact ⟨hdd.box.keep (k1 _ (by omega)), hdd.res.keep (k1 _ (by omega)), hown, hf, below_set (below_set hdd.below.drew (by omega)) (by omega)⟩
           have HBN : Hid (Blk ((wr.drew.setCell ⟨g, q * 4 + 2, none⟩ (.slice none 0 0)).setCell ⟨g, q * 4 + 3, none⟩ (.slice none 0 0)) gu 4 (boolsV (usedL t nE' t.Ins.length))) := hblk.keep ((Go.Bk.blk_setCell_other _ _ _ (Ne.symm hgu)).trans (Go.Bk.blk_setCell_other _ _ _ (Ne.symm hgu)))
           have HBX : Hid (Row wr.drew w.heap.size 34 C) := hdd.box
           have HNEG : Hid (w.heap.size ≠ g) := by show _ ≠ _; have := hdd.far; omega
           have HI4' := HI4
           obtain ⟨C0, HCC⟩ : ∃ C0 : World → Prop, Hid (∀ W, C0 W ↔ Row W w.heap.size 34 C) := ⟨_, fun _ => Iff.rfl⟩
           have HC0 : Hid (C0 wr.drew) := (HCC.out _).2 HBX.out
           have HC1 : Hid (C0 (wr.drew.setCell ⟨g, q * 4 + 2, none⟩ (.slice none 0 0))) := (HCC.out _).2 (HBX.out.keep (Go.Bk.blk_setCell_other _ _ _ HNEG.out))
           have HNEC : Nonempty (HeldW C0) := ⟨⟨_, HC0.out⟩⟩
           have hd0 : ∀ d : HeldW C0, d.val.cell? ⟨w.heap.size, 4, none⟩ = some (.slice (some ⟨g, 0, none⟩) nE' cE) := fun d => ((HCC.out _).1 d.ok).cell HI4.out
           have hd1 : ∀ d : HeldW C0, w.heap.size < d.val.heap.size := fun d => ((HCC.out _).1 d.ok).lt
           have s3 : (wr.drew.setCell ⟨g, q * 4 + 2, none⟩ (.slice none 0 0)).cell? ⟨g, q * 4 + 3, none⟩ = some u3 := by
            rw [World.cell?_setCell_other (h := by intro e; injection e with _ e2 _; omega)]
            exact g3
           have s4 : (wr.drew.setCell ⟨g, q * 4 + 2, none⟩ (.slice none 0 0)).frozen? ⟨g, q * 4 + 3, none⟩ = false := by rw [World.frozen?_setCell]; exact hfr _
           have s3' : (wr.setCell ⟨g, q * 4 + 2, none⟩ (.slice none 0 0)).drew.cell? ⟨g, q * 4 + 3, none⟩ = some u3 := s3
           have s4' : (wr.setCell ⟨g, q * 4 + 2, none⟩ (.slice none 0 0)).drew.frozen? ⟨g, q * 4 + 3, none⟩ = false := s4
           have s5' : (wr.setCell ⟨g, q * 4 + 2, none⟩ (.slice none 0 0)).cell? ⟨g, q * 4 + 3, none⟩ = some u3 := s3
           have s6' : (wr.setCell ⟨g, q * 4 + 2, none⟩ (.slice none 0 0)).frozen? ⟨g, q * 4 + 3, none⟩ = false := s4
           have f2 := hfr (q * 4 + 2)
           clear e4 e5 e6
           have gl' : g < wr.drew.heap.size := hgl
           clear hblk hdd hx hus hown hEx hBg
           go_upto_region 13 with fail
           refine wp_region_plan C0 [(true, 0), (true, 1), (true, 2), (true, 3), (true, 4), (true, 5), (false, 6), (false, 7), (false, 8), (false, 9), (false, 10)] 11 20 (by kernel_rfl) (by kernel_rfl) (by kernel_rfl) (by kernel_rfl) HC0.out ?_
           simp only [List.drop_succ_cons, List.drop_zero]
           refine plan_quiet (by repeat (first | with_reducible exact nth_zero | with_reducible apply nth_succ)) ?_
           go_big_quiet_step (fail)
           refine wpQuiet_nil ?_
           refine plan_quiet (by repeat (first | with_reducible exact nth_zero | with_reducible apply nth_succ)) ?_
           go_big_quiet_step (fail)
           refine wpQuiet_nil ?_
           refine plan_quiet (by repeat (first | with_reducible exact nth_zero | with_reducible apply nth_succ)) ?_
           go_big_quiet_step (fail)
           refine wpQuiet_nil ?_
           refine plan_quiet (by repeat (first | with_reducible exact nth_zero | with_reducible apply nth_succ)) ?_
           go_big_quiet_step (fail)
           refine wpQuiet_nil ?_
           refine plan_quiet (by repeat (first | with_reducible exact nth_zero | with_reducible apply nth_succ)) ?_
           go_big_quiet_step (fail)
           refine wpQuiet_nil ?_
           refine plan_quiet (by repeat (first | with_reducible exact nth_zero | with_reducible apply nth_succ)) ?_
           go_big_quiet_step (fail)
           refine wpQuiet_nil ?_
           refine plan_op (by repeat (first | with_reducible exact nth_zero | with_reducible apply nth_succ)) (by rfl) fun RR HRR => ?_
           go_wp2_with fail
           refine AfterT.normal (HRR _ _ (isC HC0.out) ?_)
           clear HRR RR
           refine plan_op (by repeat (first | with_reducible exact nth_zero | with_reducible apply nth_succ)) (by rfl) fun RR HRR => ?_
           go_wp2_with fail
           refine AfterT.normal (HRR _ _ (isC HC0.out) ?_)
           clear HRR RR
           refine plan_op (by repeat (first | with_reducible exact nth_zero | with_reducible apply nth_succ)) (by rfl) fun RR HRR => ?_
           go_wp2_with fail
           refine AfterT.normal (HRR _ _ (isC HC1.out) ?_)
           clear HRR RR
           refine plan_op (by repeat (first | with_reducible exact nth_zero | with_reducible apply nth_succ)) (by rfl) fun RR HRR => ?_
           go_wp2_with fail
           refine AfterT.normal (HRR _ _ (isC HC1.out) ?_)
           clear HRR RR
           refine plan_op (by repeat (first | with_reducible exact nth_zero | with_reducible apply nth_succ)) (by rfl) fun RR HRR => ?_
           go_wp2_with fail
           refine AfterT.normal (HRR _ _ (isC HC1.out) ?_)
           clear HRR RR
           refine plan_done ?_
           go_wp2_with fail
           all_goals refine NoPanic.normal ?_
           go_wp2_with fail
           go_roundw
           case rel => exact ⟨q + 1, by omega, by go_num, HBN.out, HDN.out⟩
           case measure => simp [intOf]; omega
      · skip
        obtain rfl : nE' = q := by omega
        obtain ⟨w9, hw9⟩ : ∃ w9 : World, w9 = wr := ⟨_, rfl⟩
        rw [← hw9] at hdd ⊢
        obtain ⟨tt, htt⟩ : ∃ tt, tt = bareT t := ⟨_, rfl⟩
        have hdd2 : DD w C B tt w9 := by rw [htt, ← bareL_all, ← HNE.out]; exact hdd
        have HRT : Hid (RightT tt) := by show RightT _; rw [htt]; exact bare_right HR.out
        have HNT : Hid (tt.Ins.length = nI') := by show _ = _; rw [htt]; exact HNI.out.symm
        have HFT : Hid (I64 tt.Fn ∧ I64 tt.At ∧ I64 tt.Loop) := by show _ ∧ _; rw [htt]; exact HFA.out
        have HTT := Lib.hid htt
        clear hw9 htt hdd hblk hlt hq HAL HDD HGL HEQ HI3 HI4 HNI HNE HGU HR HFA
        obtain ⟨bI, mI, dI, bE, mE, dE, a7, n7, c7, a8, n8, c8, b7, m7, d7, b8, m8, d8, hall⟩ := tall_of (hdd2.all HFT.out.1 HFT.out.2.1 HFT.out.2.2)
        obtain rfl : nI' = mI := by rw [← hall.lenI]; exact HNT.out.symm
        have HAL : Hid (∀ W, Below w9.heap.size w9 W → TAll (fun k => k < w9.heap.size) W C tt bI nI' dI bE mE dE a7 n7 c7 a8 n8 c8 b7 m7 d7 b8 m8 d8 ∧ DD w C B tt W) := fun W hb => ⟨hall.keep fun k hk => hb.block k hk, hdd2.call hb⟩
        have HEQ := Lib.hid hall.eq
        have HI3 : Hid (C.toList[3]? = some (.slice bI nI' dI)) := by show _ = _; rw [hall.eq]; rfl
        have HI4 : Hid (C.toList[4]? = some (.slice bE mE dE)) := by show _ = _; rw [hall.eq]; rfl
        have HLE := Lib.hid hall.lenE
        have HBX : Hid (∀ W, Below w9.heap.size w9 W → W.cell? ⟨w.heap.size, 5, none⟩ = some (.int .i64 tt.Turn.At) ∧ W.cell? ⟨w.heap.size, 6, none⟩ = some (.int .i64 tt.Turn.Steps) ∧ W.cell? ⟨w.heap.size, 7, none⟩ = some (.slice a7 n7 c7) ∧ W.cell? ⟨w.heap.size, 8, none⟩ = some (.slice a8 n8 c8) ∧ W.cell? ⟨w.heap.size, 9, none⟩ = some (.int .i64 tt.Back.At) ∧ W.cell? ⟨w.heap.size, 10, none⟩ = some (.int .i64 tt.Back.Steps) ∧ W.cell? ⟨w.heap.size, 11, none⟩ = some (.slice b7 m7 d7) ∧ W.cell? ⟨w.heap.size, 12, none⟩ = some (.slice b8 m8 d8) ∧ W.cell? ⟨w.heap.size, 2, none⟩ = some (.int .i64 tt.Loop) ∧ w.heap.size < W.heap.size) := fun W hb => by
         have hr := (HAL.out W hb).2.box
         have h : ∀ (j : Nat) (v : Value), C.toList[j]? = some v → W.cell? ⟨w.heap.size, j, none⟩ = some v := fun j v hv => hr.cell hv
         have e := HEQ.out
         exact ⟨h 5 _ (by rw [e]; rfl), h 6 _ (by rw [e]; rfl), h 7 _ (by rw [e]; rfl), h 8 _ (by rw [e]; rfl), h 9 _ (by rw [e]; rfl), h 10 _ (by rw [e]; rfl), h 11 _ (by rw [e]; rfl), h 12 _ (by rw [e]; rfl), h 2 _ (by rw [e]; rfl), hr.lt⟩
        have t3 := hdd2.box.cell HI3.out
        have l3 := hdd2.box.lt
        have hfI := hall.fewI; have hfE := hall.fewE
        clear hdd2 hall
        go_upto_region 16 with (with_reducible refine wp_make (n := nI') rfl rfl Tryd.underlying87 Tryd.info4 rfl rfl rfl (by omega) (by unfold maxLen; omega) fun w10 hblk hbel hsz => ?_; have HU0 := Lib.hid hblk; have HB10 := Lib.hid hbel; clear hblk hbel)
        have HA0 : Hid (Blk w10 w9.heap.size 4 (boolsV (List.replicate nI' false))) := by show Blk _ _ _ _; exact blk_false HU0.out
        obtain ⟨ga, hga⟩ : ∃ g, g = w9.heap.size := ⟨_, rfl⟩
        rw [← hga] at HA0 ⊢
        have HGA := Lib.hid hga
        clear HU0 hsz hga t3 l3
        go_wp2_with fail
        go_loopw [8] (fun s8 W => ∃ (b : Bool) (A : List Bool), s8 = .bool b ∧ A.length = nI' ∧ Blk W ga 4 (boolsV A) ∧ Below w9.heap.size w9 W ∧ (∀ j : Nat, A[j]? = some true → keepB tt j = true) ∧ (b = false → ∀ (j : Nat) (x : Api.TIns), tt.Ins[j]? = some x → ruleB tt A j x = true → A[j]? = some true)) (fun s8 W => (nI' - marks W ga) + isB s8)
        case atStart => exact ⟨true, List.replicate nI' false, rfl, by simp, HA0.out, HB10.out, fun j h => by simp [List.getElem?_replicate] at h, fun h => by cases h⟩
        case round =>
         clear HA0 HB10
         obtain ⟨b, A, rfl, hAl, hAb, hbr, hAs, hAc⟩ := hrel
         cases b with
         | true =>
           as_aux_lemma =>
            have HAL1 := Lib.hid hAl
            have HMA : Hid (marks wr ga = A.count true) := marks_blk hAb
            have t3 := (HAL.out wr hbr).2.box.cell HI3.out
            have l3 := (HAL.out wr hbr).2.box.lt
            have HA := Lib.hid hAb; have HB := Lib.hid hbr; have HS := Lib.hid hAs
            clear hAl hAb hbr hAs hAc
            go_wp2_with fail
            clear t3 l3
            go_loopw [8, 76] (fun s8 s76 W => ∃ (i : Nat) (b : Bool) (A' : List Bool), i ≤ nI' ∧ s76 = .int .i64 i ∧ s8 = .bool b ∧ A'.length = nI' ∧ Blk W ga 4 (boolsV A') ∧ Below w9.heap.size w9 W ∧ (∀ j : Nat, A'[j]? = some true → keepB tt j = true) ∧ A.count true ≤ A'.count true ∧ (b = true → A.count true < A'.count true) ∧ (b = false → A' = A ∧ ∀ (j : Nat) (x : Api.TIns), j < i → tt.Ins[j]? = some x → ruleB tt A j x = true → A[j]? = some true)) (fun _ s76 _ => nI' - (intOf s76).toNat)
            case atStart => exact ⟨0, false, A, Nat.zero_le _, rfl, rfl, HAL1.out, HA.out, HB.out, HS.out, Nat.le_refl _, (fun h => by cases h), (fun _ => ⟨rfl, fun j x hj => by omega⟩)⟩
            case round =>
             clear HA HB HS
             obtain ⟨i, b, A', hi, rfl, rfl, hAl, hAb, hbr, hAs, hA5, hA6, hA7⟩ := hrel
             by_cases hlt : i < nI'
             · as_aux_lemma =>
                obtain ⟨x, hx⟩ : ∃ x, tt.Ins[i]? = some x := ⟨_, List.getElem?_eq_getElem (by rw [HNT.out]; exact hlt)⟩
                obtain ⟨hal, hdr⟩ := HAL.out wr hbr
                obtain ⟨bi, oi, rfl, hSi, i0, i1, i2, i3, i4, i5, i6, i7, -⟩ := api_TIns_elem hal.ins hx
                have hbi : bi < wr.heap.size := Nat.lt_of_lt_of_le hSi hbr.size
                have hki : (i : Int) < (nI' : Int) := by omega
                obtain ⟨w12, hw12⟩ : ∃ w12, w12 = wr.alloc (.cells #[.int .i64 x.Op, .int .i64 x.A, .int .i64 x.B, .int .i64 x.C, .int .i64 x.N, .int .i64 x.Exit, .int .i64 x.K.Kind, .int .i64 x.K.N] 43) := ⟨_, rfl⟩
                have hb12 : Below wr.heap.size wr w12 := by rw [hw12]; exact cod.below_al2 _
                have hrow := row_new wr #[.int .i64 x.Op, .int .i64 x.A, .int .i64 x.B, .int .i64 x.C, .int .i64 x.N, .int .i64 x.Exit, .int .i64 x.K.Kind, .int .i64 x.K.N] 43
                rw [← hw12] at hrow
                have z0 := hrow.cell (j := 0) rfl
                have z5 := hrow.cell (j := 5) rfl
                have lz := hrow.lt
                have HB12 : Hid (Below w9.heap.size w9 w12) := hbr.trans (hb12.mono hbr.size)
                have HBK : Hid (Blk w12 ga 4 (boolsV A')) := hAb.keep (hb12.block _ hAb.lt)
                have HX := Lib.hid hx
                have HA5 := Lib.hid hA5; have HA6 := Lib.hid hA6; have HA7 := Lib.hid hA7; have HAS := Lib.hid hAs; have HALL := Lib.hid hAl
                have hway := HRT.out.way i x hx
                clear hAb hbr hal hdr hx hSi hrow hb12 hA5 hA6 hA7 hAs hAl
                go_upto_region 22 with fail
                rw [← hw12]
                clear hw12 i0 i1 i2 i3 i4 i5 i6 i7 hbi
                obtain ⟨nT, hnT⟩ : ∃ b, b = namesB tt.Turn i := ⟨_, rfl⟩
                obtain ⟨nB, hnB⟩ : ∃ b, b = namesB tt.Back i := ⟨_, rfl⟩
                obtain ⟨is0, his0⟩ : ∃ b, b = (firmB tt i x || (namesB tt.Turn i || namesB tt.Back i)) := ⟨_, rfl⟩
                have HNB0 : Hid (∀ W, Below w12.heap.size w12 W → Calls Tryd.prog 47 #[.agg #[.int .i64 tt.Turn.At, .int .i64 tt.Turn.Steps, .slice a7 n7 c7, .slice a8 n8 c8], .int .i64 i] W fun e w' => e = .returned (.bool nT) ∧ Below W.heap.size W w') := fun W hb => by
                 have hb9 := HB12.out.trans (hb.mono HB12.out.size)
                 rw [hnT]
                 exact rnames_any (X := #[.int .i64 tt.Turn.At, .int .i64 tt.Turn.Steps, .slice a7 n7 c7, .slice a8 n8 c8]) (HAL.out W hb9).1.turn (fun k hk => Nat.lt_of_lt_of_le hk hb9.size) i
                have HNB1 : Hid (∀ W, Below w12.heap.size w12 W → Calls Tryd.prog 47 #[.agg #[.int .i64 tt.Back.At, .int .i64 tt.Back.Steps, .slice b7 m7 d7, .slice b8 m8 d8], .int .i64 i] W fun e w' => e = .returned (.bool nB) ∧ Below W.heap.size W w') := fun W hb => by
                 have hb9 := HB12.out.trans (hb.mono HB12.out.size)
                 rw [hnB]
                 exact rnames_any (X := #[.int .i64 tt.Back.At, .int .i64 tt.Back.Steps, .slice b7 m7 d7, .slice b8 m8 d8]) (HAL.out W hb9).1.back (fun k hk => Nat.lt_of_lt_of_le hk hb9.size) i
                have HIS0 := Lib.hid his0
                rw [← hnT, ← hnB] at his0
                have HIS := Lib.hid his0
                clear hnT hnB his0
                go_cut [11] (fun s11 wz => s11 = .bool is0 ∧ Below w12.heap.size w12 wz)
                case first =>
                 as_aux_lemma =>
                  have HNT := HNB0; have HNB := HNB1
                  have HCE : Hid (∀ W, Below w12.heap.size w12 W → W.cell? ⟨w.heap.size, 5, none⟩ = some (.int .i64 tt.Turn.At) ∧ W.cell? ⟨w.heap.size, 6, none⟩ = some (.int .i64 tt.Turn.Steps) ∧ W.cell? ⟨w.heap.size, 7, none⟩ = some (.slice a7 n7 c7) ∧ W.cell? ⟨w.heap.size, 8, none⟩ = some (.slice a8 n8 c8) ∧ W.cell? ⟨w.heap.size, 9, none⟩ = some (.int .i64 tt.Back.At) ∧ W.cell? ⟨w.heap.size, 10, none⟩ = some (.int .i64 tt.Back.Steps) ∧ W.cell? ⟨w.heap.size, 11, none⟩ = some (.slice b7 m7 d7) ∧ W.cell? ⟨w.heap.size, 12, none⟩ = some (.slice b8 m8 d8) ∧ W.cell? ⟨w.heap.size, 2, none⟩ = some (.int .i64 tt.Loop) ∧ w.heap.size < W.heap.size) := fun W hb => HBX.out W (HB12.out.trans (hb.mono HB12.out.size))
                  rcases hway with hm | ⟨h0, h1⟩
                  · skip
                    rw [hm] at z5
                    have hx0 : decide (0 ≤ x.Exit) = false := by rw [hm]; rfl
                    clear hm
                    obtain ⟨te, hte⟩ : ∃ b, b = tellsOf x.Op := ⟨_, rfl⟩
                    have HTL : Hid (∀ W, Calls Tryd.prog 12 #[.int .i64 x.Op] W fun e w' => e = .returned (.bool te) ∧ Below W.heap.size W w') := fun W => by rw [hte]; exact rtells_any
                    have HX0 := Lib.hid hx0; have HTE := Lib.hid hte
                    clear hx0 hte
                    cases te with
                    | false =>
                      have HE : Hid (is0 = true) := by show _ = _; rw [HIS.out]; unfold firmB; rw [← HTE.out]; simp
                      go_wp2_with (first
                       | (go_at_call 12; (with_reducible refine (HTL.out _).mono ?_); rintro e w13 ⟨rfl, hb13⟩; have HB13 := Lib.hid hb13; obtain ⟨c5, c6, c7, c8, c9, c10, c11, c12, c2, lc⟩ := HCE.out w13 hb13; have HN1 := Lib.hid (HNT.out w13 hb13); clear hb13)
                       | fail)
                      go_meet
                      exact ⟨by rw [HE.out], HB13.out⟩
                    | true =>
                      cases nT with
                      | true =>
                        have HE : Hid (is0 = true) := by show _ = _; rw [HIS.out]; simp
                        go_wp2_with (first
                         | (go_at_call 12; (with_reducible refine (HTL.out _).mono ?_); rintro e w13 ⟨rfl, hb13⟩; have HB13 := Lib.hid hb13; obtain ⟨c5, c6, c7, c8, c9, c10, c11, c12, c2, lc⟩ := HCE.out w13 hb13; have HN1 := Lib.hid (HNT.out w13 hb13); clear hb13)
                         | (go_at_call 47; (with_reducible refine HN1.out.mono ?_); rintro e w14 ⟨rfl, hb14⟩; have HB14 := Lib.hid (HB13.out.trans (hb14.mono HB13.out.size)); obtain ⟨e5, e6, e7, e8, e9, e10, e11, e12, e2, le⟩ := HCE.out w14 HB14.out; have HN2 := Lib.hid (HNB.out w14 HB14.out); clear hb14)
                         | fail)
                        go_meet
                        exact ⟨by rw [HE.out], HB14.out⟩
                      | false =>
                        cases nB with
                        | true =>
                          have HE : Hid (is0 = true) := by show _ = _; rw [HIS.out]; simp
                          go_wp2_with (first
                           | (go_at_call 12; (with_reducible refine (HTL.out _).mono ?_); rintro e w13 ⟨rfl, hb13⟩; have HB13 := Lib.hid hb13; obtain ⟨c5, c6, c7, c8, c9, c10, c11, c12, c2, lc⟩ := HCE.out w13 hb13; have HN1 := Lib.hid (HNT.out w13 hb13); clear hb13)
                           | (go_at_call 47; (with_reducible refine HN1.out.mono ?_); rintro e w14 ⟨rfl, hb14⟩; have HB14 := Lib.hid (HB13.out.trans (hb14.mono HB13.out.size)); obtain ⟨e5, e6, e7, e8, e9, e10, e11, e12, e2, le⟩ := HCE.out w14 HB14.out; have HN2 := Lib.hid (HNB.out w14 HB14.out); clear hb14)
                           | (go_at_call 47; (with_reducible refine HN2.out.mono ?_); rintro e w15 ⟨rfl, hb15⟩; have HB15 := Lib.hid (HB14.out.trans (hb15.mono HB14.out.size)); obtain ⟨f5, f6, f7, f8, f9, f10, f11, f12, f2, lf⟩ := HCE.out w15 HB15.out; clear hb15)
                           | fail)
                          go_meet
                          exact ⟨by rw [HE.out], HB15.out⟩
                        | false =>
                          by_cases hi0 : i = 0
                          · have e0 : ((i : Int) == 0) = true := by simp [hi0]
                            have HI0 := Lib.hid hi0
                            clear hi0
                            cases hl : decide (0 < tt.Loop) with
                            | false =>
                              have HE : Hid (is0 = false) := by show _ = _; rw [HIS.out]; unfold firmB; rw [HX0.out, ← HTE.out, hl, Bool.and_false]; rfl
                              go_wp2_with (first
                               | (go_at_call 12; (with_reducible refine (HTL.out _).mono ?_); rintro e w13 ⟨rfl, hb13⟩; have HB13 := Lib.hid hb13; obtain ⟨c5, c6, c7, c8, c9, c10, c11, c12, c2, lc⟩ := HCE.out w13 hb13; have HN1 := Lib.hid (HNT.out w13 hb13); clear hb13)
                               | (go_at_call 47; (with_reducible refine HN1.out.mono ?_); rintro e w14 ⟨rfl, hb14⟩; have HB14 := Lib.hid (HB13.out.trans (hb14.mono HB13.out.size)); obtain ⟨e5, e6, e7, e8, e9, e10, e11, e12, e2, le⟩ := HCE.out w14 HB14.out; have HN2 := Lib.hid (HNB.out w14 HB14.out); clear hb14)
                               | (go_at_call 47; (with_reducible refine HN2.out.mono ?_); rintro e w15 ⟨rfl, hb15⟩; have HB15 := Lib.hid (HB14.out.trans (hb15.mono HB14.out.size)); obtain ⟨f5, f6, f7, f8, f9, f10, f11, f12, f2, lf⟩ := HCE.out w15 HB15.out; clear hb15)
                               | fail)
                              go_meet
                              exact ⟨by rw [HE.out], HB15.out⟩
                            | true =>
                              have HE : Hid (is0 = true) := by show _ = _; rw [HIS.out]; unfold firmB; rw [hl, decide_eq_true HI0.out]; simp
                              go_wp2_with (first
                               | (go_at_call 12; (with_reducible refine (HTL.out _).mono ?_); rintro e w13 ⟨rfl, hb13⟩; have HB13 := Lib.hid hb13; obtain ⟨c5, c6, c7, c8, c9, c10, c11, c12, c2, lc⟩ := HCE.out w13 hb13; have HN1 := Lib.hid (HNT.out w13 hb13); clear hb13)
                               | (go_at_call 47; (with_reducible refine HN1.out.mono ?_); rintro e w14 ⟨rfl, hb14⟩; have HB14 := Lib.hid (HB13.out.trans (hb14.mono HB13.out.size)); obtain ⟨e5, e6, e7, e8, e9, e10, e11, e12, e2, le⟩ := HCE.out w14 HB14.out; have HN2 := Lib.hid (HNB.out w14 HB14.out); clear hb14)
                               | (go_at_call 47; (with_reducible refine HN2.out.mono ?_); rintro e w15 ⟨rfl, hb15⟩; have HB15 := Lib.hid (HB14.out.trans (hb15.mono HB14.out.size)); obtain ⟨f5, f6, f7, f8, f9, f10, f11, f12, f2, lf⟩ := HCE.out w15 HB15.out; clear hb15)
                               | fail)
                              go_meet
                              exact ⟨by rw [HE.out], HB15.out⟩
                          · have e0 : ((i : Int) == 0) = false := by simp; omega
                            have HE : Hid (is0 = false) := by show _ = _; rw [HIS.out]; unfold firmB; rw [HX0.out, ← HTE.out, decide_eq_false hi0]; rfl
                            go_wp2_with (first
                             | (go_at_call 12; (with_reducible refine (HTL.out _).mono ?_); rintro e w13 ⟨rfl, hb13⟩; have HB13 := Lib.hid hb13; obtain ⟨c5, c6, c7, c8, c9, c10, c11, c12, c2, lc⟩ := HCE.out w13 hb13; have HN1 := Lib.hid (HNT.out w13 hb13); clear hb13)
                             | (go_at_call 47; (with_reducible refine HN1.out.mono ?_); rintro e w14 ⟨rfl, hb14⟩; have HB14 := Lib.hid (HB13.out.trans (hb14.mono HB13.out.size)); obtain ⟨e5, e6, e7, e8, e9, e10, e11, e12, e2, le⟩ := HCE.out w14 HB14.out; have HN2 := Lib.hid (HNB.out w14 HB14.out); clear hb14)
                             | (go_at_call 47; (with_reducible refine HN2.out.mono ?_); rintro e w15 ⟨rfl, hb15⟩; have HB15 := Lib.hid (HB14.out.trans (hb15.mono HB14.out.size)); obtain ⟨f5, f6, f7, f8, f9, f10, f11, f12, f2, lf⟩ := HCE.out w15 HB15.out; clear hb15)
                             | fail)
                            go_meet
                            exact ⟨by rw [HE.out], HB15.out⟩
                  · skip
                    obtain ⟨e, he⟩ : ∃ e : Nat, x.Exit = e := ⟨x.Exit.toNat, by omega⟩
                    rw [he] at z5
                    have hx0 : decide (0 ≤ x.Exit) = true := decide_eq_true h0
                    have HX0 := Lib.hid hx0
                    clear he h0 h1 hx0
                    have HE : Hid (is0 = true) := by show _ = _; rw [HIS.out]; unfold firmB; rw [HX0.out]; simp
                    go_wp2_with fail
                    go_meet
                    exact ⟨by rw [HE.out], Below.refl _ _⟩
                case rest =>
                 obtain ⟨rfl, hbc⟩ := hcut
                 have HBC : Hid (Below w9.heap.size w9 wc) := HB12.out.trans (hbc.mono HB12.out.size)
                 have HAC : Hid (Blk wc ga 4 (boolsV A')) := HBK.out.keep (hbc.block _ HBK.out.lt)
                 have t4 := (HAL.out wc HBC.out).2.box.cell HI4.out
                 have l4 := (HAL.out wc HBC.out).2.box.lt
                 clear hbc HBK HB12 HNB0 HNB1 HIS z0 z5 lz hway
                 go_wp2_with fail
                 clear t4 l4
                 go_loopw [11, 114] (fun s11 s114 W => ∃ q : Nat, q ≤ mE ∧ s114 = .int .i64 q ∧ s11 = .bool (is0 || (tt.Exits.take q).any (fun e => namesB e i)) ∧ Below wc.heap.size wc W) (fun _ s114 _ => mE - (intOf s114).toNat)
                 case atStart => exact ⟨0, Nat.zero_le _, rfl, by simp, Below.refl _ _⟩
                 case round =>
                  obtain ⟨q, hq, rfl, rfl, hbq⟩ := hrel
                  have hb9 := HBC.out.trans (hbq.mono HBC.out.size)
                  by_cases hlt2 : q < mE
                  · as_aux_lemma =>
                     obtain ⟨e, he⟩ : ∃ e, tt.Exits[q]? = some e := ⟨_, List.getElem?_eq_getElem (by rw [HLE.out]; exact hlt2)⟩
                     obtain ⟨hal, hdr⟩ := HAL.out wr hb9
                     obtain ⟨be, oe, a2, c2, a3, c3, rfl, hSe, y0, y1, y2, y3, j0, j1, hs2, hs3⟩ := api_TExit_elem hal.exits he
                     have hbe : be < wr.heap.size := Nat.lt_of_lt_of_le hSe hb9.size
                     have hqi : (q : Int) < (mE : Int) := by omega
                     obtain ⟨w13, hw13⟩ : ∃ w13, w13 = wr.alloc (.cells #[.int .i64 e.At, .int .i64 e.Steps, .slice a2 e.Sets.length c2, .slice a3 e.Makes.length c3] 32) := ⟨_, rfl⟩
                     have hb13 : Below wr.heap.size wr w13 := by rw [hw13]; exact cod.below_al2 _
                     have hrow := row_new wr #[.int .i64 e.At, .int .i64 e.Steps, .slice a2 e.Sets.length c2, .slice a3 e.Makes.length c3] 32
                     rw [← hw13] at hrow
                     have r0 := hrow.cell (j := 0) rfl; have r1 := hrow.cell (j := 1) rfl; have r2 := hrow.cell (j := 2) rfl; have r3 := hrow.cell (j := 3) rfl
                     have lr := hrow.lt
                     have HB13 : Hid (Below wc.heap.size wc w13) := hbq.trans (hb13.mono hbq.size)
                     obtain ⟨nm, hnm⟩ : ∃ b, b = namesB e i := ⟨_, rfl⟩
                     have HNM : Hid (Calls Tryd.prog 47 #[.agg #[.int .i64 e.At, .int .i64 e.Steps, .slice a2 e.Sets.length c2, .slice a3 e.Makes.length c3], .int .i64 i] w13 fun e w' => e = .returned (.bool nm) ∧ Below w13.heap.size w13 w') := by
                      rw [hnm]
                      have hrep : Rep.cells (fun k => k < w9.heap.size) w13 [.int .i64 e.At, .int .i64 e.Steps, .slice a2 e.Sets.length c2, .slice a3 e.Makes.length c3] e := Rep.keep (fun k hk => hb13.block k (Nat.lt_of_lt_of_le hk hb9.size)) (exit_mk j0 j1 ⟨a2, c2, rfl, hs2⟩ ⟨a3, c3, rfl, hs3⟩)
                      exact rnames_any (X := #[.int .i64 e.At, .int .i64 e.Steps, .slice a2 e.Sets.length c2, .slice a3 e.Makes.length c3]) hrep (fun k hk => Nat.lt_of_lt_of_le (Nat.lt_of_lt_of_le hk hb9.size) hb13.size) i
                     obtain ⟨cur, hcur⟩ : ∃ b, b = (is0 || (tt.Exits.take q).any (fun e => namesB e i)) := ⟨_, rfl⟩
                     have HSU : Hid ((is0 || (tt.Exits.take (q + 1)).any (fun e => namesB e i)) = (cur || nm)) := by
                      show _ = _
                      rw [hcur, hnm, List.take_add_one, he, List.any_append, ← Bool.or_assoc]
                      simp
                     rw [← hcur]
                     clear hcur hnm hal hdr he hSe hs2 hs3 hrow hb13 hbq hb9
                     go_upto_region 26 with fail
                     rw [← hw13]
                     clear hw13 y0 y1 y2 y3 hbe
                     cases cur with
                     | true =>
                       go_wp2_with fail
                       go_roundw
                       case rel => exact ⟨q + 1, by omega, by go_num, by rw [HSU.out]; rfl, HB13.out⟩
                       case measure => simp [intOf]; omega
                     | false =>
                       go_wp2_with (go_at_call 47; (with_reducible refine HNM.out.mono ?_); rintro e w14 ⟨rfl, hb14⟩; have HB14 := Lib.hid (HB13.out.trans (hb14.mono HB13.out.size)); clear hb14)
                       go_roundw
                       case rel => exact ⟨q + 1, by omega, by go_num, by rw [HSU.out]; rfl, HB14.out⟩
                       case measure => simp [intOf]; omega
                  · obtain rfl : mE = q := by omega
                    obtain ⟨is1, his1⟩ : ∃ b, b = (is0 || (tt.Exits.take mE).any (fun e => namesB e i)) := ⟨_, rfl⟩
                    rw [← his1]
                    have HI1 : Hid (is1 = (is0 || tt.Exits.any (fun e => namesB e i))) := by show _ = _; rw [his1, ← HLE.out, List.take_length]
                    obtain ⟨wd, hwd⟩ : ∃ wd : World, wd = wr := ⟨_, rfl⟩
                    rw [← hwd] at hb9 ⊢
                    have HAD : Hid (Blk wd ga 4 (boolsV A')) := by show Blk _ _ _ _; rw [hwd]; exact HAC.out.keep (hbq.block _ HAC.out.lt)
                    have HBD := Lib.hid hb9
                    have t3 := (HAL.out wd hb9).2.box.cell HI3.out
                    have l3 := (HAL.out wd hb9).2.box.lt
                    clear his1 hwd hbq hb9 HAC HBC hq hlt2
                    go_wp2_with fail
                    clear t3 l3
                    go_loopw [11, 128] (fun s11 s128 W => ∃ q : Nat, q ≤ nI' ∧ s128 = .int .i64 q ∧ s11 = .bool (is1 || askA tt A' i q) ∧ Below wd.heap.size wd W) (fun _ s128 _ => nI' - (intOf s128).toNat)
                    case atStart => exact ⟨0, Nat.zero_le _, rfl, by simp [askA], Below.refl _ _⟩
                    case round =>
                     obtain ⟨q, hq, rfl, rfl, hbq⟩ := hrel
                     have hb9 := HBD.out.trans (hbq.mono HBD.out.size)
                     have haq' := HAD.out.keep (hbq.block _ HAD.out.lt)
                     by_cases hlt2 : q < nI'
                     · as_aux_lemma =>
                        obtain ⟨y, hy⟩ : ∃ y, tt.Ins[q]? = some y := ⟨_, List.getElem?_eq_getElem (by rw [HNT.out]; exact hlt2)⟩
                        obtain ⟨hal, hdr⟩ := HAL.out wr hb9
                        obtain ⟨bj, oj, haJ, hSi, i0, i1, i2, i3, i4, i5, i6, i7, j0, j1, j2, j3, -⟩ := api_TIns_elem hal.ins hy
                        injection haJ with haJ
                        injection haJ with e1 e2
                        subst e1
                        subst e2
                        have hbi : bi < wr.heap.size := Nat.lt_of_lt_of_le hSi hb9.size
                        have hqi : (q : Int) < (nI' : Int) := by omega
                        obtain ⟨w13, hw13⟩ : ∃ w13, w13 = wr.alloc (.cells #[.int .i64 y.Op, .int .i64 y.A, .int .i64 y.B, .int .i64 y.C, .int .i64 y.N, .int .i64 y.Exit, .int .i64 y.K.Kind, .int .i64 y.K.N] 43) := ⟨_, rfl⟩
                        have hb13 : Below wr.heap.size wr w13 := by rw [hw13]; exact cod.below_al2 _
                        have hrow := row_new wr #[.int .i64 y.Op, .int .i64 y.A, .int .i64 y.B, .int .i64 y.C, .int .i64 y.N, .int .i64 y.Exit, .int .i64 y.K.Kind, .int .i64 y.K.N] 43
                        rw [← hw13] at hrow
                        have HRW := Lib.hid hrow
                        have lr := hrow.lt
                        obtain ⟨aq, haq⟩ : ∃ b, A'[q]? = some b := ⟨_, List.getElem?_eq_getElem (by rw [HALL.out]; exact hlt2)⟩
                        have m0 := (haq'.keep (hb13.block _ haq'.lt)).cell (boolsV_get haq)
                        have m2 := (haq'.keep (hb13.block _ haq'.lt)).lt
                        have HB13 : Hid (Below wd.heap.size wd w13) := hbq.trans (hb13.mono hbq.size)
                        obtain ⟨ab, has⟩ : ∃ b, b = asksB tt q i := ⟨_, rfl⟩
                        obtain ⟨m, hm⟩ : ∃ m, m = (asksOf y).length := ⟨_, rfl⟩
                        have HAS1 : Hid (∀ W', Calls Tryd.prog 48 #[.agg #[.int .i64 y.Op, .int .i64 y.A, .int .i64 y.B, .int .i64 y.C, .int .i64 y.N, .int .i64 y.Exit, .int .i64 y.K.Kind, .int .i64 y.K.N]] W' fun e w' => (∃ a c, e = .returned (.slice a m c) ∧ (a = none → c = 0) ∧ Arr (Fresh W' w') w' a (asksOf y)) ∧ Below W'.heap.size W' w') := fun W' => by
                         rw [hm]
                         exact rasks_any (by simp; exact ⟨j1, j2, j3⟩)
                        have HHA : Hid (∀ (W : World) (S : Nat → Prop) (a : Option Addr) (c : Nat), Arr S W a (asksOf y) → Calls Tryd.prog 32 #[.slice a m c, .int .i64 i] W fun e w' => e = .returned (.bool ab) ∧ Below W.heap.size W w') := fun W S a c ha => by
                         rw [hm]
                         refine (has_any (S := S) ha).mono fun e w' ⟨h1, h2⟩ => ⟨?_, h2.below _⟩
                         rw [h1, has]
                         congr 2
                         unfold asksB
                         rw [hy, Bool.eq_iff_iff, decide_eq_true_eq, List.any_eq_true]
                         constructor
                         · intro h; exact ⟨_, h, by simp⟩
                         · rintro ⟨u, h, e⟩; rw [← of_decide_eq_true e]; exact h
                        obtain ⟨cur, hcur⟩ : ∃ b, b = (is1 || askA tt A' i q) := ⟨_, rfl⟩
                        have HSU : Hid ((is1 || askA tt A' i (q + 1)) = (cur || (aq && ab))) := by
                         show (is1 || (askA tt A' i q || ((A'[q]?).getD false && asksB tt q i))) = _
                         rw [hcur, has, haq, ← Bool.or_assoc]
                         rfl
                        rw [← hcur]
                        clear hcur has hm hal hdr hy hSi hrow hb13 hbq hb9 haq haq' j0 j1 j2 j3
                        go_upto_region 31 with fail
                        rw [← hw13]
                        clear hw13 i0 i1 i2 i3 i4 i5 i6 i7 hbi
                        cases cur with
                        | true =>
                          go_wp2_with fail
                          go_roundw
                          case rel => exact ⟨q + 1, by omega, by go_num, by rw [HSU.out]; rfl, HB13.out⟩
                          case measure => simp [intOf]; omega
                        | false =>
                          cases aq with
                          | false =>
                            go_wp2_with fail
                            go_roundw
                            case rel => exact ⟨q + 1, by omega, by go_num, by rw [HSU.out]; rfl, HB13.out⟩
                            case measure => simp [intOf]; omega
                          | true =>
                            go_wp2_with (first
                             | (with_reducible refine ldI rfl rfl rfl HRW.out rfl ?_)
                             | (go_at_call 48; (with_reducible refine (HAS1.out _).mono ?_); rintro e w14 ⟨⟨a14, c14, rfl, -, har⟩, hb14⟩; have HB14 := Lib.hid (HB13.out.trans (hb14.mono HB13.out.size)); have HHX := Lib.hid (HHA.out w14 _ a14 c14 har); clear hb14 har)
                             | (go_at_call 32; (with_reducible refine HHX.out.mono ?_); rintro e w15 ⟨rfl, hb15⟩; have HB15 := Lib.hid (HB14.out.trans (hb15.mono HB14.out.size)); clear hb15))
                            go_roundw
                            case rel => exact ⟨q + 1, by omega, by go_num, by rw [HSU.out]; rfl, HB15.out⟩
                            case measure => simp [intOf]; omega
                     · obtain rfl : nI' = q := by omega
                       obtain ⟨is2, his2⟩ : ∃ b, b = (is1 || askA tt A' i nI') := ⟨_, rfl⟩
                       rw [← his2]
                       have HI2 : Hid (is2 = ruleB tt A' i x) := by
                        show _ = _
                        rw [his2, HI1.out, HIS0.out]
                        unfold ruleB
                        rw [HNT.out]
                       obtain ⟨ai, hai⟩ : ∃ b, A'[i]? = some b := ⟨_, List.getElem?_eq_getElem (by rw [HALL.out]; exact hlt)⟩
                       have m0 := haq'.cell (boolsV_get hai)
                       have m1 := haq'.frozen i
                       have m2 := haq'.lt
                       have HAE := Lib.hid haq'; have HBE := Lib.hid hb9; have HAI := Lib.hid hai
                       clear his2 hai haq' hb9 hbq hq hlt2
                       cases is2 with
                       | false =>
                         as_aux_lemma =>
                          have HN7 : Hid (b = false → A' = A ∧ ∀ (j : Nat) (x : Api.TIns), j < i + 1 → tt.Ins[j]? = some x → ruleB tt A j x = true → A[j]? = some true) := fun h => by
                           obtain ⟨e, hc⟩ := HA7.out h
                           refine ⟨e, fun j x' hj hx' hru => ?_⟩
                           by_cases hji : j = i
                           · subst hji
                             obtain rfl : x' = x := Option.some.inj (hx'.symm.trans HX.out)
                             have := HI2.out
                             rw [e, hru] at this
                             cases this
                           · exact hc j x' (by omega) hx' hru
                          go_wp2_with fail
                          go_roundw
                          case rel => exact ⟨i + 1, b, A', by omega, by go_num, rfl, HALL.out, HAE.out, HBE.out, HAS.out, HA5.out, HA6.out, HN7.out⟩
                          case measure => simp [intOf]; omega
                       | true =>
                         cases ai with
                         | true =>
                           as_aux_lemma =>
                            have HN7 : Hid (b = false → A' = A ∧ ∀ (j : Nat) (x : Api.TIns), j < i + 1 → tt.Ins[j]? = some x → ruleB tt A j x = true → A[j]? = some true) := fun h => by
                             obtain ⟨e, hc⟩ := HA7.out h
                             refine ⟨e, fun j x' hj hx' hru => ?_⟩
                             by_cases hji : j = i
                             · subst hji
                               rw [← e]
                               exact HAI.out
                             · exact hc j x' (by omega) hx' hru
                            go_wp2_with fail
                            go_roundw
                            case rel => exact ⟨i + 1, b, A', by omega, by go_num, rfl, HALL.out, HAE.out, HBE.out, HAS.out, HA5.out, HA6.out, HN7.out⟩
                            case measure => simp [intOf]; omega
                         | false =>
                           as_aux_lemma =>
                            have hk : keepB tt i = true := rule_keep HRT.out HX.out HAS.out HI2.out.symm
                            have HNS : Hid (∀ j : Nat, (A'.set i true)[j]? = some true → keepB tt j = true) := fun j hj => by
                             by_cases hji : i = j
                             · subst hji; exact hk
                             · rw [List.getElem?_set_ne hji] at hj
                               exact HAS.out j hj
                            have HNC : Hid ((A'.set i true).count true = A'.count true + 1) := count_set HAI.out
                            have HNB : Hid (Blk (wr.setCell ⟨ga, i, none⟩ (.bool true)) ga 4 (boolsV (A'.set i true))) := by
                             show Blk _ _ _ _
                             rw [← boolsV_set]
                             exact HAE.out.set i (.bool true)
                            have HNW : Hid (Below w9.heap.size w9 (wr.setCell ⟨ga, i, none⟩ (.bool true))) := below_set HBE.out (by rw [HGA.out]; exact Nat.le_refl _)
                            go_wp2_with fail
                            go_roundw
                            case rel => exact ⟨i + 1, true, A'.set i true, by omega, by go_num, rfl, by rw [List.length_set]; exact HALL.out, HNB.out, HNW.out, HNS.out, by have := HNC.out; have := HA5.out; omega, fun _ => by have := HNC.out; have := HA5.out; omega, (fun h => by cases h)⟩
                            case measure => simp [intOf]; omega
             · as_aux_lemma =>
                obtain rfl : nI' = i := by omega
                have HMB : Hid (marks wr ga = A'.count true) := marks_blk hAb
                have hcl := count_le A'
                rw [hAl] at hcl
                have HCL := Lib.hid hcl
                have H1 := Lib.hid hAl; have H2 := Lib.hid hAb; have H3 := Lib.hid hbr; have H4 := Lib.hid hAs; have H5 := Lib.hid hA5; have H6 := Lib.hid hA6; have H7 := Lib.hid hA7
                clear hAl hAb hbr hAs hA5 hA6 hA7 hcl hlt hi
                go_wp2_with fail
                go_roundw
                case rel =>
                 refine ⟨b, A', rfl, H1.out, H2.out, H3.out, H4.out, fun h => ?_⟩
                 obtain ⟨e, hc⟩ := H7.out h
                 rw [e]
                 exact fun j x hx hru => hc j x (by have := (List.getElem?_eq_some_iff.1 hx).1; rw [HNT.out] at this; exact this) hx hru
                case measure =>
                 show nI' - marks wr ga + isB (Value.bool b) < nI' - marks _ ga + isB (Value.bool true)
                 rw [HMB.out, HMA.out]
                 have h5 := H5.out; have h6 := H6.out; have h9 := HCL.out
                 cases b with
                 | true => have := h6 rfl; show _ + 1 < _ + 1; omega
                 | false => show _ + 0 < _ + 1; omega
         | false =>
           as_aux_lemma =>
            have HK : Hid (∀ j : Nat, j < nI' → A[j]? = some (keepB tt j)) := closed_keep HRT.out HNT.out hAl hAs (hAc rfl)
            obtain ⟨w13, hw13⟩ : ∃ w13 : World, w13 = wr := ⟨_, rfl⟩
            rw [← hw13] at hAb hbr ⊢
            have HA := Lib.hid hAb; have HB := Lib.hid hbr
            have HDX := Lib.hid (HAL.out w13 hbr).2
            have HREP : Hid (∀ W, Below w13.heap.size w13 W → Rep.cells (fun k => k < w13.heap.size) W C.toList tt) := fun W hb => Rep.keep (fun k hk => hb.block k hk) (HDX.out.all HFT.out.1 HFT.out.2.1 HFT.out.2.2)
            have HS3 : Hid (Calls Tryd.prog 39 #[.agg C] w13 fun e w' => ∃ v, e = .returned v ∧ Own (fun _ => False) w' (w13.heap.size + 1) 3 v (idTo nI') ∧ Below w13.heap.size w13 w') := by
             rw [← HNT.out]
             exact same0_any (HREP.out w13 (Below.refl _ _)) (fun b hb => hb) (by rw [HNT.out]; omega)
            have HBX13 : Hid (Row w13 w.heap.size 34 C) := HDX.out.box
            clear hw13 hAl hAb hbr hAs hAc
            go_upto_region 37 with (first
             | (with_reducible refine ldT rfl rfl rfl HBX13.out hsC ?_)
             | (go_at_call 39; (with_reducible refine HS3.out.mono ?_); rintro e w14 ⟨v14, rfl, ho14, hb14⟩; have HO14 := Lib.hid ho14; have HB14 := Lib.hid hb14; clear ho14 hb14))
            obtain ⟨av, cv, hv, -, -, -⟩ := HO14.out.arr
            rw [idTo_len] at hv
            subst hv
            have HO0 : Hid (Own (fun _ => False) w14 (w13.heap.size + 1) 3 (.slice av nI' cv) (dtoI tt nI' 0)) := by show Own _ _ _ _ _ _; rw [dtoI_zero]; exact HO14.out
            clear HO14 HS3
            go_wp2_with fail
            go_loopw [163] (fun i W => ∃ k : Nat, k ≤ nI' ∧ i = .int .i64 k ∧ Own (fun _ => False) W (w13.heap.size + 1) 3 (.slice av nI' cv) (dtoI tt nI' k) ∧ Below w13.heap.size w13 W) (fun i _ => nI' - (intOf i).toNat)
            case atStart => exact ⟨0, Nat.zero_le _, rfl, HO0.out, HB14.out⟩
            case round =>
             clear HO0 HB14
             obtain ⟨k, hk, rfl, ho, hbr⟩ := hrel
             by_cases hlt : k < nI'
             · as_aux_lemma =>
                obtain ⟨kb, hkb⟩ : ∃ b, b = keepB tt k := ⟨_, rfl⟩
                have hAk := HA.out.keep (hbr.block _ HA.out.lt)
                have m0 := hAk.cell (boolsV_get (HK.out k hlt))
                rw [← hkb] at m0
                have m2 := hAk.lt
                have hki : (k : Int) < (nI' : Int) := by omega
                have HO := Lib.hid ho; have HBR := Lib.hid hbr
                cases kb with
                | true =>
                  have HL : Hid (dtoI tt nI' (k + 1) = dtoI tt nI' k) := dtoI_yes hkb.symm
                  clear ho hbr hAk hkb
                  go_wp2_with fail
                  go_roundw
                  case rel => exact ⟨k + 1, by omega, by go_num, by rw [HL.out]; exact HO.out, HBR.out⟩
                  case measure => simp [intOf]; omega
                | false =>
                  have HL : Hid ((dtoI tt nI' k).set k (-1) = dtoI tt nI' (k + 1)) := dtoI_no hkb.symm
                  obtain ⟨g, cap, cs, h1, h2, h3, h4, ⟨hcs, hi⟩, h6, h7, h8⟩ := ho.at (dtoI_at (t := tt) hlt)
                  injection h1 with h1 e2 e3
                  subst h1
                  subst hcs
                  have n0 : wr.cell? ⟨g, k, none⟩ = some (.int .i64 (k : Int)) := by simpa [show Rep.sz Int = 1 from rfl] using h6 0 Nat.zero_lt_one
                  have n1 := h7 k
                  have HON : Hid (Own (fun _ => False) (wr.setCell ⟨g, k, none⟩ (.int .i64 (-1))) (w13.heap.size + 1) 3 (.slice (some ⟨g, 0, none⟩) nI' cv) (dtoI tt nI' (k + 1))) := by
                   show Own _ _ _ _ _ _
                   rw [← HL.out]
                   have := h8 0 (.int .i64 (-1)) (-1 : Int) Nat.zero_lt_one (fun _ h => h.elim) ⟨rfl, by unfold I64; omega⟩
                   simpa [show Rep.sz Int = 1 from rfl] using this
                  have HBN : Hid (Below w13.heap.size w13 (wr.setCell ⟨g, k, none⟩ (.int .i64 (-1)))) := below_set HBR.out (by omega)
                  clear ho hbr hAk hkb h2 h4 hi h6 h7 h8 e2 e3
                  go_wp2_with fail
                  go_roundw
                  case rel => exact ⟨k + 1, by omega, by go_num, HON.out, HBN.out⟩
                  case measure => simp [intOf]; omega
             · as_aux_lemma =>
                obtain rfl : nI' = k := by omega
                have HLL : Hid (dtoI tt nI' nI' = deadTo tt) := by show _ = _; rw [← HNT.out]; exact dtoI_all tt
                have hl := deadTo_len tt
                rw [HLL.out] at ho
                obtain ⟨a, cap, hv, -, -, harr⟩ := ho.arr
                injection hv with e1 e2 e3
                subst e1
                have HDW := Lib.hid (HDX.out.call hbr)
                have HRTR : Hid (Row wr w.heap.size 34 C) := HDW.out.box
                have HCUT : Hid (Calls Tryd.prog 42 #[.agg C, .slice av nI' cv] wr fun e w' => ∃ D : Array Value, D.size = 13 ∧ D.all (·.oneCell') = true ∧ e = .returned (.tuple #[.agg D, .bool true]) ∧ Rep.cells (Fresh wr w') w' D.toList (cutT tt (deadTo tt)) ∧ Below wr.heap.size wr w') :=
                 rcut_out (HREP.out wr hbr) (fun b hb' => Nat.lt_of_lt_of_le hb' hbr.size) harr (fun b hb' => hb'.elim False.elim (·.2)) (by rw [hl, HNT.out]) HRT.out hl (by rw [hl]; exact deadTo_ok tt) (dead_fine HRT.out)
                have HBR := Lib.hid hbr
                clear ho harr hl hlt hk e2 e3 hbr
                go_wp2_with (first
                 | (with_reducible refine ldT rfl rfl rfl HRTR.out hsC ?_)
                 | (go_at_call 42; (with_reducible refine HCUT.out.mono ?_); rintro e w7 ⟨D, hD1, hD2, rfl, hr7, hb7⟩; have HD1 := Lib.hid hD1; have HD2 := Lib.hid hD2; have HR7 := Lib.hid hr7; have HB7 := Lib.hid hb7; have HS7 := Lib.hid (HDW.out.call hb7).res; have HO7 : Hid (Row (w7.alloc (.cells #[.int .i64 0, .int .i64 0, .int .i64 0, .slice none 0 0, .slice none 0 0, .int .i64 0, .int .i64 0, .slice none 0 0, .slice none 0 0, .int .i64 0, .int .i64 0, .slice none 0 0, .slice none 0 0] 34)) w7.heap.size 34 #[.int .i64 0, .int .i64 0, .int .i64 0, .slice none 0 0, .slice none 0 0, .int .i64 0, .int .i64 0, .slice none 0 0, .slice none 0 0, .int .i64 0, .int .i64 0, .slice none 0 0, .slice none 0 0]) := row_new _ _ _; have HX7 : Hid (Row ((w7.alloc (.cells #[.int .i64 0, .int .i64 0, .int .i64 0, .slice none 0 0, .slice none 0 0, .int .i64 0, .int .i64 0, .slice none 0 0, .slice none 0 0, .int .i64 0, .int .i64 0, .slice none 0 0, .slice none 0 0] 34)).setRow w7.heap.size D) w7.heap.size 34 D) := setRow_heap _ _ _ _ _ _ HO7.out; have HY7 : Hid (Row ((w7.alloc (.cells #[.int .i64 0, .int .i64 0, .int .i64 0, .slice none 0 0, .slice none 0 0, .int .i64 0, .int .i64 0, .slice none 0 0, .slice none 0 0, .int .i64 0, .int .i64 0, .slice none 0 0, .slice none 0 0] 34)).setRow w7.heap.size D) (w.heap.size + 1) 34 zeroTL.toArray) := (HS7.out.keep (Below.heap_alloc _ _ _ HS7.out.lt)).keep (setRow_other _ _ _ _ (by have := HS7.out.lt; omega)); clear hD1 hD2 hr7 hb7)
                 | (with_reducible refine stT (OLD := #[.int .i64 0, .int .i64 0, .int .i64 0, .slice none 0 0, .slice none 0 0, .int .i64 0, .int .i64 0, .slice none 0 0, .slice none 0 0, .int .i64 0, .int .i64 0, .slice none 0 0, .slice none 0 0]) (C := D) rfl rfl rfl rfl HO7.out HD1.out rfl HD2.out ?_)
                 | (with_reducible refine ldT rfl rfl rfl HX7.out HD1.out ?_)
                 | (with_reducible refine stT (OLD := zeroTL.toArray) (C := D) rfl rfl rfl rfl HY7.out HD1.out rfl HD2.out ?_))
                have HYB : Hid (Row (((w7.alloc (.cells #[.int .i64 0, .int .i64 0, .int .i64 0, .slice none 0 0, .slice none 0 0, .int .i64 0, .int .i64 0, .slice none 0 0, .slice none 0 0, .int .i64 0, .int .i64 0, .slice none 0 0, .slice none 0 0] 34)).setRow w7.heap.size D).setRow (w.heap.size + 1) D) (w.heap.size + 1) 34 D) := setRow_heap _ _ _ _ _ _ HY7.out
                (try simp only [Exit.inBlock, Exit.then])
                have hs7 := HDW.out.below.size; have hs8 := HB7.out.size
                refine bodyPost_ret (results_cell_row rfl _ _ _ _ _ _ _ rfl HYB.out Tryd.underlying34 rfl (infoT HD1.out)) rfl ?_
                unfold RefOut
                refine ⟨D, HD1.out, HD2.out, rfl, ?_, below_setRow (below_setRow ((HDW.out.below.trans (HB7.out.mono hs7)).alloc (by omega) _) (by omega) _) (by omega) _⟩
                have hss : (((w7.alloc (.cells #[.int .i64 0, .int .i64 0, .int .i64 0, .slice none 0 0, .slice none 0 0, .int .i64 0, .int .i64 0, .slice none 0 0, .slice none 0 0, .int .i64 0, .int .i64 0, .slice none 0 0, .slice none 0 0] 34)).setRow w7.heap.size D).setRow (w.heap.size + 1) D).heap.size = w7.heap.size + 1 := by simp [World.setRow]
                rw [← HTT.out]
                have hfin : Rep.cells (Fresh wr w7) (((w7.alloc (.cells #[.int .i64 0, .int .i64 0, .int .i64 0, .slice none 0 0, .slice none 0 0, .int .i64 0, .int .i64 0, .slice none 0 0, .slice none 0 0, .int .i64 0, .int .i64 0, .slice none 0 0, .slice none 0 0] 34)).setRow w7.heap.size D).setRow (w.heap.size + 1) D) D.toList (cutT tt (deadTo tt)) :=
                 Rep.keep (S := Fresh wr w7) (fun j hj => (setRow_other _ _ _ _ (by have := hj.1; have := HS7.out.lt; have := HDW.out.res.lt; omega)).trans ((setRow_other _ _ _ _ (by have := hj.2; omega)).trans (Below.heap_alloc _ _ _ hj.2))) HR7.out
                exact Rep.mono (S := Fresh wr w7) (fun j hj => ⟨Nat.le_trans hs7 hj.1, by rw [hss]; have := hj.2; omega⟩) hfin
end Go.Proofs.YtekofpigmggbbaaDoor.ded
