/- dead.Do: its parts. -/
import Derived.Test.YtekofpigmggbbaaDoorDeadB
import Derived.Test.YtekofpigmggbbaaDoorDeadA
import Derived.Test.YtekofpigmggbbaaDoorCodeE
import Derived.Test.YtekofpigmggbbaaDoorPass
import Derived.Test.YtekofpigmggbbaaDoorHeadA
import Derived.Test.YtekofpigmggbbaaDoorBackT
set_option linter.unusedVariables false
set_option linter.unusedSimpArgs false
namespace Go.Proofs.YtekofpigmggbbaaDoor.ded
open Go.Bk Go.RowKit Go.Proofs.YtekofpigmggbbaaDoor.ir Go.Proofs.YtekofpigmggbbaaDoor.chk Go.Proofs.YtekofpigmggbbaaDoor.cut Go.Proofs.YtekofpigmggbbaaDoor.pas
attribute [local go_sem ↓] Go.wp_at_zero Go.wp_at_succ

set_option maxRecDepth 100000 in
theorem cloneX_any {S : Nat → Prop} {w : World} {a : Option Addr} {c n : Nat} {xs : List Api.TExit} (hn : xs.length = n) (h : Arr S w a xs) (hnil : a = none → c = 0) (hS : ∀ b, S b → b < w.heap.size) (hm : n ≤ 100000) :
    Calls Tryd.prog 44 #[.slice a n c] w fun e w' => ∃ v, e = .returned v ∧ Go.Bk.Own S w' w.heap.size 32 v xs ∧ Below w.heap.size w w' := by
  have q22 : ∀ (w : World) (a : Option Addr) (n c n' c' : Nat), (binOp .eql 28 (.slice a n c) (.slice none n' c')).run Tryd.prog w = .ok (.bool a.isNone) w := fun w a n c n' c' => Lib.run_eql_slice_nil w _ _ a n c n' c' Tryd.underlying28
  cases a with
  | none =>
    obtain rfl := arr_none h
    go_enter Tryd.func44, Tryd.ntmps44
    go_wp2_with fail
    go_ret
    exact ⟨_, rfl, Go.Bk.Own.nil _ _ _ _, Below.refl _ _⟩
  | some ad =>
    have HB : Hid (Go.Bk.Own S (w.alloc (.cells #[] 32)) w.heap.size 32 (.slice (some ⟨w.heap.size, 0, none⟩) 0 0) ([] : List Api.TExit)) := own_zero (Nat.le_refl _) box_zero
    have HA : Hid (Arr S (w.alloc (.cells #[] 32)) (some ad) xs) := h.keep (fun b hb => Below.heap_alloc _ _ _ (hS b hb))
    have HN := Lib.hid hn; have HNI := Lib.hid hnil
    have HSS : Hid (∀ b, S b → b < (w.alloc (.cells #[] 32)).heap.size ∧ (Value.slice (some ⟨w.heap.size, 0, none⟩) 0 0).ownBlock ≠ some b) := fun b hb => by
      have := hS b hb
      refine ⟨by simp; omega, fun e => ?_⟩
      have : w.heap.size = b := Option.some.inj e
      omega
    clear h hnil hn
    go_enter Tryd.func44, Tryd.ntmps44
    go_wp2_with (at_builtin; with_reducible refine Tryd.wp_apps28 (v := .slice (some ⟨w.heap.size, 0, none⟩) 0 0) rfl rfl rfl rfl HN.out HB.out HA.out (fun cs y h => h) HNI.out HSS.out (by simp; omega) (by simp) fun v' w' hown' hg' => ?_; have hbw : Below w.heap.size w w' := box_below (n := 0) (c := 0) (by with_unfolding_all exact hg'); have HO := Lib.hid hown'; have HW := Lib.hid hbw; clear hown' hg' hbw)
    go_ret
    exact ⟨_, rfl, by simpa using HO.out, HW.out⟩
/-- An exit of a row of one's own stored anew, bare. -/
theorem own_put4 {S : Nat → Prop} {W : World} {B : Nat} {v : Value} {xs : List Api.TExit} (h : Go.Bk.Own S W B 32 v xs) {k : Nat} {x : Api.TExit} (hx : xs[k]? = some x) : ∃ g cap, v = .slice (some ⟨g, 0, none⟩) xs.length cap ∧ B ≤ g ∧ g < W.heap.size ∧
    ((∀ b, S b → b ≠ g) → ∃ W', (Instr.storeAt 32 (.pointer (some ⟨g, k * 4, none⟩)) (.agg #[.int .i64 x.At, .int .i64 x.Steps, .slice none 0 0, .slice none 0 0])).run Tryd.prog W = .ok () W' ∧ Go.Bk.Own S W' B 32 v (xs.set k ⟨x.At, x.Steps, [], []⟩) ∧ (∀ b, b ≠ g → W'.heap[b]? = W.heap[b]?) ∧ W'.heap.size = W.heap.size ∧ W'.os = W.os ∧ W'.tape = W.tape ∧ W'.output = W.output) := by
  have hlt := (List.getElem?_eq_some_iff.1 hx).1
  obtain ⟨g, cap, cs, h1, h2, h3, h4, h5, h6, h7, h8⟩ := h.at hx
  obtain ⟨a2, c2, a3, c3, rfl, i0, i1, q2, q3⟩ := api_TExit_cells_eq h5
  have d0 := h6 0 (by show 0 < 4; omega); have d1 := h6 1 (by show 1 < 4; omega); have d2 := h6 2 (by show 2 < 4; omega); have d3 := h6 3 (by show 3 < 4; omega)
  simp only [show Rep.sz Api.TExit = 4 from rfl, List.getElem?_cons_zero, List.getElem?_cons_succ, Nat.add_zero] at d0 d1 d2 d3
  refine ⟨g, cap, h1, h2, h3, fun hS => ⟨_, storeX_run (k := k * 4) d0 d1 d2 d3 h7 h3, ?_, ?_, ?_, rfl, rfl, rfl⟩⟩
  · have r0 : Rep.cells S W ([Value.int .i64 x.At, .int .i64 x.Steps, .slice a2 x.Sets.length c2, .slice a3 x.Makes.length c3].set 0 (.int .i64 x.At)) x := h5
    have o0 := h8 0 (.int .i64 x.At) x (by show 0 < 4; omega) hS r0
    have hset : xs.set k x = xs := by
      apply List.ext_getElem?
      intro i
      rw [List.getElem?_set]
      by_cases e : k = i
      · subst e; rw [if_pos rfl, if_pos hlt]; exact hx.symm
      · rw [if_neg e]
    rw [hset] at o0
    have step : ∀ (W1 : World) (o1 : Go.Bk.Own S W1 B 32 v xs) , Go.Bk.Own S (W1.setCell ⟨g, k * 4 + 1, none⟩ (.int .i64 x.Steps)) B 32 v xs := fun W1 o1 => by
      obtain ⟨g', cap', cs', e1, -, -, -, e5, -, -, e8⟩ := o1.at hx
      have hg : g' = g := by rw [h1] at e1; injection e1 with e1; injection e1 with e1; injection e1 with e1; exact e1.symm
      subst hg
      obtain ⟨b2, f2, b3, f3, rfl, -, -, -, -⟩ := api_TExit_cells_eq e5
      have := e8 1 (.int .i64 x.Steps) x (by show 1 < 4; omega) hS e5
      rwa [hset] at this
    have o1 := step _ o0
    obtain ⟨g', cap', e1, -, -, -, -, -, -, e9⟩ := own_bare o1 hx
    have hg : g' = g := by rw [h1] at e1; injection e1 with e1; injection e1 with e1; injection e1 with e1; exact e1.symm
    subst hg
    exact e9 hS
  · intro b hb
    exact (blk_setCell_other _ _ _ hb).trans ((blk_setCell_other _ _ _ hb).trans ((blk_setCell_other _ _ _ hb).trans (blk_setCell_other _ _ _ hb)))
  · rw [size_setCell, size_setCell, size_setCell, size_setCell]
end Go.Proofs.YtekofpigmggbbaaDoor.ded

/- dead.Do: what is asked, and the numbers, while they are made. -/
namespace Go.Proofs.YtekofpigmggbbaaDoor.ded
open Go.Bk Go.RowKit Go.Proofs.YtekofpigmggbbaaDoor.ir Go.Proofs.YtekofpigmggbbaaDoor.chk Go.Proofs.YtekofpigmggbbaaDoor.cut Go.Proofs.YtekofpigmggbbaaDoor.pas

/-- A list over the numbers below n. -/
def rl {α : Type} (n : Nat) (f : Nat → α) : List α := (List.range n).map f
theorem rl_len {α : Type} (n : Nat) (f : Nat → α) : (rl n f).length = n := by simp [rl]
theorem rl_at {α : Type} {n j : Nat} {f : Nat → α} (h : j < n) : (rl n f)[j]? = some (f j) := by simp [rl, h]
theorem rl_ext {α : Type} {n : Nat} {f g : Nat → α} (h : ∀ j, j < n → f j = g j) : rl n f = rl n g := by
  unfold rl
  apply List.map_congr_left
  intro j hj
  exact h j (by simpa using hj)
theorem rl_const {α : Type} (n : Nat) (a : α) : rl n (fun _ => a) = List.replicate n a := by
  apply List.ext_getElem
  · simp [rl]
  · intro i h1 h2
    simp [rl]
theorem rl_set {α : Type} {n i : Nat} {f : Nat → α} {a : α} : (rl n f).set i a = rl n (fun j => if j = i then a else f j) := by
  apply List.ext_getElem
  · simp [rl]
  · intro j h1 h2
    rw [List.getElem_set]
    simp only [rl, List.getElem_map, List.getElem_range]
    by_cases h : i = j
    · rw [if_pos h, if_pos h.symm]
    · rw [if_neg h, if_neg (fun e => h e.symm)]
theorem markL_rl {n : Nat} {f : Nat → Bool} {l : List Int} (hl : ∀ v ∈ l, 0 ≤ v) : markL (rl n f) l = rl n (fun j => f j || l.any fun u => decide (u = (j : Int))) := by
  apply List.ext_getElem?
  intro j
  by_cases hj : j < n
  · rw [rl_at hj, markL_at hl (rl_at hj)]
  · rw [List.getElem?_eq_none (by rw [markL_len, rl_len]; omega), List.getElem?_eq_none (by rw [rl_len]; omega)]
/-- Asked for by the first k exits. -/
def askX (t : Api.TTrace) (n k : Nat) : List Bool := rl n fun v => (t.Exits.take k).any fun x => namesB x v
theorem askX_zero (t : Api.TTrace) (n : Nat) : askX t n 0 = List.replicate n false := by
  unfold askX
  rw [← rl_const]
  exact rl_ext fun j _ => by simp
theorem vals_nonneg {t : Api.TTrace} {x : Api.TExit} (hx : ExitR t.Ins x) : ∀ v ∈ exVals x, 0 ≤ v ∧ v < t.Ins.length := by
  intro v hv
  have h : valAt t.Ins v t.Ins.length = true := by
    unfold exVals at hv
    rcases List.mem_append.1 hv with hv | hv
    · obtain ⟨s, hs, rfl⟩ := List.mem_map.1 hv
      exact hx.sets s hs
    · obtain ⟨m, hm, hv⟩ := List.mem_flatMap.1 hv
      obtain ⟨h1, -, h2⟩ := hx.makes m hm
      rcases List.mem_cons.1 hv with rfl | hv
      · exact h1
      · exact h2 v hv
  obtain ⟨k, y, rfl, h1, h2, -⟩ := valAt_iff.1 h
  exact ⟨by omega, by omega⟩
theorem askX_succ {t : Api.TTrace} {n k : Nat} {x : Api.TExit} (hx : t.Exits[k]? = some x) (hv : ∀ v ∈ exVals x, 0 ≤ v) : markL (askX t n k) (exVals x) = askX t n (k + 1) := by
  unfold askX
  rw [markL_rl hv]
  refine rl_ext fun j _ => ?_
  rw [List.take_add_one, hx, List.any_append]
  simp [namesB]
/-- Asked for by an exit, or by the ends. -/
theorem askE_eq {t : Api.TTrace} {n : Nat} (hT : ∀ v ∈ exVals t.Turn, 0 ≤ v) (hB : ∀ v ∈ exVals t.Back, 0 ≤ v) : markL (markL (askX t n t.Exits.length) (exVals t.Turn)) (exVals t.Back) = rl n fun v => endB t v := by
  unfold askX
  rw [markL_rl hT, markL_rl hB]
  refine rl_ext fun j _ => ?_
  rw [List.take_length]
  unfold endB
  rw [Bool.or_assoc]
  rfl
/-- Asked for when the last m are through. -/
def askK (t : Api.TTrace) (n m : Nat) : List Bool := rl n fun v => endB t v || askedBy t (keptD t m) v
theorem askK_zero (t : Api.TTrace) (n : Nat) : (rl n fun v => endB t v) = askK t n 0 := rl_ext fun j _ => by simp [keptD, askedBy]
def toK (t : Api.TTrace) (n m : Nat) : List Int := rl n fun j => if n - m ≤ j then (if j ∈ keptD t m then (j : Int) else -1) else 0
theorem toK_zero (t : Api.TTrace) (n : Nat) : toK t n 0 = List.replicate n 0 := by
  unfold toK
  rw [← rl_const]
  exact rl_ext fun j hj => by rw [if_neg (by omega)]
theorem toK_len (t : Api.TTrace) (n m : Nat) : (toK t n m).length = n := rl_len _ _
theorem askK_len (t : Api.TTrace) (n m : Nat) : (askK t n m).length = n := rl_len _ _
theorem keptD_yes {t : Api.TTrace} {m i : Nat} (hi : i = t.Ins.length - 1 - m) (h : wantB t (keptD t m) i = true) : keptD t (m + 1) = i :: keptD t m := by
  subst hi
  show (if _ then _ else _) = _
  rw [if_pos h]
theorem keptD_no {t : Api.TTrace} {m i : Nat} (hi : i = t.Ins.length - 1 - m) (h : wantB t (keptD t m) i = false) : keptD t (m + 1) = keptD t m := by
  subst hi
  show (if _ then _ else _) = _
  rw [if_neg (by rw [h]; decide)]
theorem toK_no {t : Api.TTrace} {n m i : Nat} (hn : t.Ins.length = n) (hi : i + 1 + m = n) (h : wantB t (keptD t m) i = false) : (toK t n m).set i (-1) = toK t n (m + 1) := by
  unfold toK
  rw [rl_set]
  refine rl_ext fun j hj => ?_
  rw [keptD_no (i := i) (by omega) h]
  by_cases hji : j = i
  · subst hji
    rw [if_pos rfl, if_pos (by omega), if_neg fun hm => by have := (keptD_ge t hm).1; omega]
  · rw [if_neg hji]
    by_cases h1 : n - m ≤ j
    · rw [if_pos h1, if_pos (show n - (m + 1) ≤ j by omega)]
    · rw [if_neg h1, if_neg (show ¬ n - (m + 1) ≤ j by omega)]
theorem toK_yes {t : Api.TTrace} {n m i : Nat} (hn : t.Ins.length = n) (hi : i + 1 + m = n) (h : wantB t (keptD t m) i = true) : ((toK t n m).set i (-1)).set i (i : Int) = toK t n (m + 1) := by
  rw [List.set_set]
  unfold toK
  rw [rl_set]
  refine rl_ext fun j hj => ?_
  rw [keptD_yes (i := i) (by omega) h]
  by_cases hji : j = i
  · subst hji
    rw [if_pos rfl, if_pos (by omega), if_pos (List.mem_cons_self)]
  · rw [if_neg hji]
    by_cases h1 : n - m ≤ j
    · rw [if_pos h1, if_pos (show n - (m + 1) ≤ j by omega)]
      by_cases h2 : j ∈ keptD t m
      · rw [if_pos h2, if_pos (List.mem_cons_of_mem _ h2)]
      · rw [if_neg h2, if_neg (fun h3 => by rcases List.mem_cons.1 h3 with h3 | h3; exact hji h3; exact h2 h3)]
    · rw [if_neg h1, if_neg (show ¬ n - (m + 1) ≤ j by omega)]
theorem askK_no {t : Api.TTrace} {n m i : Nat} (hn : t.Ins.length = n) (hi : i + 1 + m = n) (h : wantB t (keptD t m) i = false) : askK t n m = askK t n (m + 1) := by
  unfold askK
  rw [keptD_no (i := i) (by omega) h]
theorem askK_yes {t : Api.TTrace} {n m i : Nat} {x : Api.TIns} (hn : t.Ins.length = n) (hi : i + 1 + m = n) (hx : t.Ins[i]? = some x) (hv : ∀ v ∈ asksOf x, 0 ≤ v) (h : wantB t (keptD t m) i = true) : markL (askK t n m) (asksOf x) = askK t n (m + 1) := by
  unfold askK
  rw [markL_rl hv]
  refine rl_ext fun j hj => ?_
  rw [keptD_yes (i := i) (by omega) h]
  have : askedBy t (i :: keptD t m) j = (asksB t i j || askedBy t (keptD t m) j) := rfl
  rw [this]
  have h2 : asksB t i j = (asksOf x).any fun u => decide (u = (j : Int)) := by unfold asksB; rw [hx]
  rw [h2, Bool.or_assoc]
  congr 1
  exact Bool.or_comm _ _
theorem toK_all {t : Api.TTrace} : toK t t.Ins.length t.Ins.length = deadTo t := by
  unfold toK deadTo rl
  apply List.map_congr_left
  intro j hj
  rw [if_pos (by omega)]
  unfold keepB
  by_cases h : j ∈ keptD t t.Ins.length
  · rw [if_pos h, if_pos (decide_eq_true h)]
  · rw [if_neg h, if_neg (by rw [decide_eq_false h]; decide)]
theorem want_eq {t : Api.TTrace} {n m i : Nat} {x : Api.TIns} (hi : i < n) (hx : t.Ins[i]? = some x) : ∃ a, (askK t n m)[i]? = some a ∧ wantB t (keptD t m) i = (a || firmB t i x) := by
  refine ⟨_, rl_at hi, ?_⟩
  unfold wantB
  rw [hx]
/-- What lies in memory all along: the box of the trace, the answer's, what is used, what is asked and its box, the function that marks, the exits. -/
structure DS (S : Nat → Prop) (w : World) (nI gu ga gb gf B : Nat) (CL : Array Value) (vE : Value) (us A : List Bool) (E : List Api.TExit) (W : World) : Prop where
  tb : Row W (w.heap.size + 1) 34 CL
  res : Row W (w.heap.size + 2) 34 zeroTL.toArray
  used : Blk W gu 4 (boolsV us)
  ask : Blk W ga 4 (boolsV A)
  bx : Row W gb 87 #[.slice (some ⟨ga, 0, none⟩) nI nI]
  clo : Row W gf 88 #[.func (.func 43) #[] #[.pointer (some ⟨gb, 0, none⟩)]]
  ex : Go.Bk.Own S W B 32 vE E
  below : Below w.heap.size w W
  far : w.heap.size + 3 ≤ gu ∧ gu < ga ∧ ga < gb ∧ gb < gf ∧ gf < B
  dom : ∀ b, S b → b < w.heap.size
section
variable {S : Nat → Prop} {w W W' : World} {nI gu ga gb gf B : Nat} {CL : Array Value} {vE : Value} {us A A' : List Bool} {E E' : List Api.TExit}
/-- What is kept where all blocks of it are. -/
theorem DS.keep (h : DS S w nI gu ga gb gf B CL vE us A E W) (hk : ∀ b, b < W.heap.size → W'.heap[b]? = W.heap[b]?) (hb : Below w.heap.size w W') : DS S w nI gu ga gb gf B CL vE us A E W' :=
  have hs : ∀ b, S b → b < W.heap.size := fun b hb => Nat.lt_of_lt_of_le (h.dom b hb) h.below.size
  ⟨h.tb.keep (hk _ h.tb.lt), h.res.keep (hk _ h.res.lt), h.used.keep (hk _ h.used.lt), h.ask.keep (hk _ h.ask.lt), h.bx.keep (hk _ h.bx.lt), h.clo.keep (hk _ h.clo.lt), own_same' h.ex (fun b hb => hk b (h.ex.lt b hb).2) (fun b hb => hk b (hs b hb)), hb, h.far, h.dom⟩
theorem DS.call (h : DS S w nI gu ga gb gf B CL vE us A E W) (hb : Below W.heap.size W W') : DS S w nI gu ga gb gf B CL vE us A E W' := h.keep (fun b hb' => hb.block b hb') (h.below.trans (hb.mono h.below.size))
/-- Marked. -/
theorem DS.mark (h : DS S w nI gu ga gb gf B CL vE us A E W) (hw : Wr W.heap.size ga W W') (ha : Blk W' ga 4 (boolsV A')) : DS S w nI gu ga gb gf B CL vE us A' E W' := by
  obtain ⟨f1, f2, f3, f4, f5⟩ := h.far
  have hs : ∀ b, S b → b < W.heap.size := fun b hb => Nat.lt_of_lt_of_le (h.dom b hb) h.below.size
  have k : ∀ b, b < W.heap.size → b ≠ ga → W'.heap[b]? = W.heap[b]? := fun b h1 h2 => hw.block b h1 h2
  have hB : Below w.heap.size w W' := h.below.trans ((hw.mono h.below.size).below (by omega))
  exact ⟨h.tb.keep (k _ h.tb.lt (by omega)), h.res.keep (k _ h.res.lt (by omega)), h.used.keep (k _ h.used.lt (by omega)), ha, h.bx.keep (k _ h.bx.lt (by omega)), h.clo.keep (k _ h.clo.lt (by omega)), own_same' h.ex (fun b hb => k b (h.ex.lt b hb).2 (by have := (h.ex.lt b hb).1; omega)) (fun b hb => k b (hs b hb) (by have := h.dom b hb; omega)), hB, h.far, h.dom⟩
/-- An exit stored. -/
theorem DS.exit (h : DS S w nI gu ga gb gf B CL vE us A E W) {g : Nat} (hg : B ≤ g) (hk : ∀ b, b ≠ g → W'.heap[b]? = W.heap[b]?) (hs : W'.heap.size = W.heap.size) (h1 : W'.os = W.os) (h2 : W'.tape = W.tape) (h3 : W'.output = W.output) (he : Go.Bk.Own S W' B 32 vE E') : DS S w nI gu ga gb gf B CL vE us A E' W' := by
  obtain ⟨f1, f2, f3, f4, f5⟩ := h.far
  have hB : Below w.heap.size w W' := ⟨h1.trans h.below.os, h2.trans h.below.tape, h3.trans h.below.output, by rw [hs]; exact h.below.size, fun b hb => (hk b (by omega)).trans (h.below.block b hb)⟩
  exact ⟨h.tb.keep (hk _ (by omega)), h.res.keep (hk _ (by omega)), h.used.keep (hk _ (by omega)), h.ask.keep (hk _ (by omega)), h.bx.keep (hk _ (by omega)), h.clo.keep (hk _ (by omega)), he, hB, h.far, h.dom⟩
end
/-! The loop from the last to the first, as a fold over what it has met. -/
def stepD (t : Api.TTrace) (s : List Bool × List Int) (x : Nat × Api.TIns) : List Bool × List Int :=
  if (s.1[x.1]?).getD false || firmB t x.1 x.2 then (markL s.1 (asksOf x.2), (s.2.set x.1 (-1)).set x.1 (x.1 : Int)) else (s.1, s.2.set x.1 (-1))
def stD (t : Api.TTrace) (n : Nat) (pre : List (Nat × Api.TIns)) : List Bool × List Int := pre.foldl (stepD t) (askK t n 0, toK t n 0)
theorem stD_nil (t : Api.TTrace) (n : Nat) : stD t n [] = (askK t n 0, toK t n 0) := rfl
theorem stD_snoc (t : Api.TTrace) (n : Nat) (pre : List (Nat × Api.TIns)) (x : Nat × Api.TIns) : stD t n (pre ++ [x]) = stepD t (stD t n pre) x := by
  unfold stD
  rw [List.foldl_append]
  rfl
theorem stepD_len {t : Api.TTrace} {s : List Bool × List Int} {x : Nat × Api.TIns} {n : Nat} (h : s.1.length = n ∧ s.2.length = n) : (stepD t s x).1.length = n ∧ (stepD t s x).2.length = n := by
  unfold stepD
  split
  · exact ⟨by rw [markL_len]; exact h.1, by rw [List.length_set, List.length_set]; exact h.2⟩
  · exact ⟨h.1, by rw [List.length_set]; exact h.2⟩
theorem fold_len {t : Api.TTrace} {n : Nat} : ∀ (pre : List (Nat × Api.TIns)) (s : List Bool × List Int), s.1.length = n ∧ s.2.length = n → (pre.foldl (stepD t) s).1.length = n ∧ (pre.foldl (stepD t) s).2.length = n
  | [], _, h => h
  | x :: pre, s, h => fold_len pre _ (stepD_len h)
theorem stD_len (t : Api.TTrace) (n : Nat) (pre : List (Nat × Api.TIns)) : (stD t n pre).1.length = n ∧ (stD t n pre).2.length = n := fold_len pre _ ⟨askK_len _ _ _, toK_len _ _ _⟩
theorem stD_back {t : Api.TTrace} {n : Nat} (hn : t.Ins.length = n) (hv : ∀ (i : Nat) (x : Api.TIns), t.Ins[i]? = some x → ∀ v ∈ asksOf x, 0 ≤ v) : ∀ k, k ≤ n → stD t n (upto (backOf t.Ins) k) = (askK t n k, toK t n k)
  | 0, _ => rfl
  | k + 1, h => by
    obtain ⟨i, hi⟩ : ∃ i, i + 1 + k = n := ⟨n - 1 - k, by omega⟩
    obtain ⟨x, hx⟩ : ∃ x, t.Ins[i]? = some x := ⟨_, List.getElem?_eq_getElem (by omega)⟩
    rw [upto_succ, stD_snoc, stD_back hn hv k (by omega), backOf_at hn hi hx]
    obtain ⟨a, h1, h2⟩ := want_eq (t := t) (n := n) (m := k) (i := i) (by omega) hx
    unfold stepD
    dsimp only
    rw [h1]
    show (if (a || firmB t i x) = true then _ else _) = _
    rw [← h2]
    cases hw : wantB t (keptD t k) i with
    | true => rw [if_pos rfl, askK_yes hn hi hx (hv i x hx) hw, toK_yes hn hi hw]
    | false => rw [if_neg (by decide), ← askK_no hn hi hw, toK_no hn hi hw]
/-- What lies in memory in that loop: all that was, the numbers and their box. -/
structure DR (S : Nat → Prop) (w : World) (nI gu ga gb gf B : Nat) (CL : Array Value) (vE : Value) (us : List Bool) (E : List Api.TExit) (gt gq N : Nat) (s : List Bool × List Int) (W : World) : Prop where
  ds : DS S w nI gu ga gb gf B CL vE us s.1 E W
  nums : Blk W gt 3 (s.2.map (Value.int .i64))
  tbx : Row W gq 58 #[.slice (some ⟨gt, 0, none⟩) nI nI]
  own : ∀ b, vE.ownBlock = some b → b < gt
  far : gf < gt ∧ gt < gq ∧ gq < N
  size : N ≤ W.heap.size
section
variable {S : Nat → Prop} {w W W' : World} {nI gu ga gb gf B gt gq N : Nat} {CL : Array Value} {vE : Value} {us A A' : List Bool} {l : List Int} {E : List Api.TExit} {s : List Bool × List Int}
/-- What is kept where its own blocks are. -/
theorem DS.keepP (h : DS S w nI gu ga gb gf B CL vE us A E W) (hk : ∀ b, (b ≤ gf ∨ vE.ownBlock = some b) → W'.heap[b]? = W.heap[b]?) (hb : Below w.heap.size w W') : DS S w nI gu ga gb gf B CL vE us A E W' := by
  obtain ⟨f1, f2, f3, f4, f5⟩ := h.far
  exact ⟨h.tb.keep (hk _ (.inl (by omega))), h.res.keep (hk _ (.inl (by omega))), h.used.keep (hk _ (.inl (by omega))), h.ask.keep (hk _ (.inl (by omega))), h.bx.keep (hk _ (.inl (by omega))), h.clo.keep (hk _ (.inl (by omega))), own_same' h.ex (fun b hb => hk b (.inr hb)) (fun b hb => hk b (.inl (by have := h.dom b hb; omega))), hb, h.far, h.dom⟩
theorem DR.low (h : DR S w nI gu ga gb gf B CL vE us E gt gq N s W) (hb : Below N W W') : DR S w nI gu ga gb gf B CL vE us E gt gq N s W' := by
  obtain ⟨f1, f2, f3⟩ := h.far
  obtain ⟨d1, d2, d3, d4, d5⟩ := h.ds.far
  refine ⟨h.ds.keepP (fun b hb' => hb.block b ?_) (h.ds.below.trans (hb.mono (by omega))), h.nums.keep (hb.block _ (by omega)), h.tbx.keep (hb.block _ (by omega)), h.own, h.far, Nat.le_trans h.size hb.size⟩
  rcases hb' with h1 | h1
  · omega
  · have := h.own b h1; omega
theorem DR.put (h : DR S w nI gu ga gb gf B CL vE us E gt gq N s W) (i : Nat) (v : Int) : DR S w nI gu ga gb gf B CL vE us E gt gq N (s.1, s.2.set i v) (W.setCell ⟨gt, i, none⟩ (.int .i64 v)) := by
  obtain ⟨f1, f2, f3⟩ := h.far
  obtain ⟨d1, d2, d3, d4, d5⟩ := h.ds.far
  have k : ∀ b, b ≠ gt → (W.setCell ⟨gt, i, none⟩ (.int .i64 v)).heap[b]? = W.heap[b]? := fun b hb => Go.Bk.blk_setCell_other _ _ _ hb
  refine ⟨h.ds.keepP (fun b hb' => k b ?_) (below_set h.ds.below (by omega)), ?_, h.tbx.keep (k _ (by omega)), h.own, h.far, by rw [Go.Bk.size_setCell]; exact h.size⟩
  · rcases hb' with h1 | h1
    · omega
    · have := h.own b h1; omega
  · show Blk _ _ _ ((s.2.set i v).map _)
    rw [List.map_set]
    exact h.nums.set i (.int .i64 v)
theorem DR.mark (h : DR S w nI gu ga gb gf B CL vE us E gt gq N s W) (hw : Wr W.heap.size ga W W') (ha : Blk W' ga 4 (boolsV A')) : DR S w nI gu ga gb gf B CL vE us E gt gq N (A', s.2) W' := by
  obtain ⟨f1, f2, f3⟩ := h.far
  obtain ⟨d1, d2, d3, d4, d5⟩ := h.ds.far
  have hz := h.size
  exact ⟨h.ds.mark hw ha, h.nums.keep (hw.block _ (by omega) (by omega)), h.tbx.keep (hw.block _ (by omega) (by omega)), h.own, h.far, Nat.le_trans h.size hw.size⟩
end
/-- What the loop's body writes: what is asked, and the numbers. -/
def TW (ga gt : Nat) (W W' : World) : Prop := W.heap.size ≤ W'.heap.size ∧ ∀ b, b < W.heap.size → b ≠ ga → b ≠ gt → W'.heap[b]? = W.heap[b]?
theorem TW.refl (ga gt : Nat) (W : World) : TW ga gt W W := ⟨Nat.le_refl _, fun _ _ _ _ => rfl⟩
theorem TW.below {ga gt : Nat} {W W1 W2 : World} (h : TW ga gt W W1) (hb : Below W1.heap.size W1 W2) : TW ga gt W W2 :=
  ⟨Nat.le_trans h.1 hb.size, fun b h1 h2 h3 => (hb.block b (Nat.lt_of_lt_of_le h1 h.1)).trans (h.2 b h1 h2 h3)⟩
theorem TW.put {ga gt : Nat} {W W1 : World} (h : TW ga gt W W1) (i : Nat) (v : Value) : TW ga gt W (W1.setCell ⟨gt, i, none⟩ v) :=
  ⟨by rw [Go.Bk.size_setCell]; exact h.1, fun b h1 h2 h3 => (Go.Bk.blk_setCell_other _ _ _ h3).trans (h.2 b h1 h2 h3)⟩
theorem TW.mark {ga gt : Nat} {W W1 W2 : World} (h : TW ga gt W W1) (hw : Wr W1.heap.size ga W1 W2) : TW ga gt W W2 :=
  ⟨Nat.le_trans h.1 hw.size, fun b h1 h2 h3 => (hw.block b (Nat.lt_of_lt_of_le h1 h.1) h2).trans (h.2 b h1 h2 h3)⟩
theorem TW.from {ga gt N : Nat} {W W' : World} (h : TW ga gt W W') (h1 : ga < N) (h2 : gt < N) : KeepsFrom N W W' := keepsFrom_of h.1 fun k hk hk2 => h.2 k hk2 (by omega) (by omega)
theorem TW.keeps {ga gt : Nat} {T : Nat → Prop} {W W' : World} (h : TW ga gt W W') (hT : ∀ b, T b → b < W.heap.size ∧ b ≠ ga ∧ b ≠ gt) : Keeps T W W' := fun b hb => h.2 b (hT b hb).1 (hT b hb).2.1 (hT b hb).2.2
def valsI {l : List Api.TIns} (pre : List (AtI l)) : List (Nat × Api.TIns) := pre.map fun x => x.val
theorem valsI_snoc {l : List Api.TIns} (pre : List (AtI l)) (x : AtI l) : valsI (pre ++ [x]) = valsI pre ++ [x.val] := by simp [valsI]
end Go.Proofs.YtekofpigmggbbaaDoor.ded
