/- code.Check: the words, slices.Equal at texts, tables: walked. -/
import Derived.Test.YtekofpigmggbbaaDoorQCodeI
import Derived.Test.YtekofpigmggbbaaDoorQMap
import Derived.Test.YtekofpigmggbbaaDoorQFieldsLay
import Derived.Lib.AppendIntMem
import Derived.StringKeys
import Derived.Deep.QuietTactic
set_option linter.unusedVariables false
set_option linter.unusedSimpArgs false
namespace Go.Proofs.YtekofpigmggbbaaDoor.cod
open Go.Bk Go.RowKit Go.Maps Go.Proofs.YtekofpigmggbbaaDoor.funs

/-- The library's table of blanks is in its place. -/
def Asc (w : World) : Prop := Lib.TabIs Tryd.prog w "strings.asciiSpace" .u8 Lib.asciiSpaceTab
theorem Asc.keep {w w' : World} (h : Asc w) (hb : RowKit.Below w.heap.size w w') : Asc w' := Lib.tabBelow_of_tabIs h w' hb
def wordsS : ByteArray := ⟨#[107, 105, 110, 100, 32, 114, 97, 110, 103, 101, 32, 122, 101, 114, 111, 32, 105, 110, 100, 101, 120, 32, 108, 97, 114, 103, 101, 32, 100, 101, 101, 112, 32, 115, 116, 97, 116, 101, 32, 99, 111, 117, 110, 116, 32, 110, 105, 108, 32, 98, 111, 111, 108, 32, 105, 110, 116, 32, 102, 108, 111, 97, 116, 32, 116, 101, 120, 116, 32, 111, 98, 106, 101, 99, 116, 32, 108, 105, 115, 116, 32, 102, 117, 110, 99, 116, 105, 111, 110, 32, 103, 101, 110, 101, 114, 97, 116, 111, 114, 32, 108, 111, 99, 107, 32, 119, 101, 97, 107]⟩
def wordsL : List ByteArray := (Lib.fields wordsS.data.toList).map fun l => ⟨l.toArray⟩
theorem wordsL_len : wordsL.length = 19 := by kernel_rfl
theorem wordsL_small : ∀ x ∈ wordsL, x.size ≤ maxLen := by
  have h : (wordsL.all fun x => decide (x.size ≤ 20)) = true := by kernel_rfl
  intro x hx
  have := List.all_eq_true.1 h x hx
  simp at this
  unfold maxLen
  omega
theorem blk_strs {w : World} {g : Nat} {e : TypeId} {xs : List ByteArray} (h : Blk w g e (xs.map Value.string)) (hz : ∀ x ∈ xs, x.size ≤ maxLen) (hl : xs.length ≤ maxLen) {S : Nat → Prop} (hS : S g) : Arr S w (some ⟨g, 0, none⟩) xs := by
  refine ⟨hl, .inr ⟨g, 0, rfl, hS, fun k x hk => ⟨[.string x], ⟨rfl, hz x (List.mem_of_getElem? hk)⟩, fun j hj => ?_⟩⟩⟩
  have hj0 : j = 0 := by have : j < 1 := hj; omega
  subst hj0
  show w.cell? ⟨g, 0 + k * 1 + 0, none⟩ = some _
  rw [show 0 + k * 1 + 0 = k by omega]
  exact h.cell (by simp [hk])
set_option maxRecDepth 100000 in
theorem words_any {w : World} (h : Asc w) : Calls Tryd.prog 108 #[] w fun e w' => e = .returned (.slice (some ⟨w.heap.size, 0, none⟩) 19 19) ∧ w' = w.alloc (.cells (wordsL.map Value.string).toArray 9) := by
  have HF : Hid (Calls Tryd.prog 141 #[.string wordsS] w fun e w' => e = .returned (.slice (some ⟨w.heap.size, 0, none⟩) 19 19) ∧ w' = w.alloc (.cells (wordsL.map Value.string).toArray 9)) := by
    have hsz : wordsS.size < 4294967281 := by
      have : decide (wordsS.size ≤ 200) = true := by kernel_rfl
      have := of_decide_eq_true this
      omega
    have k := Any.strings_Fields Tryd.fieldsLays (by kernel_rfl) (by kernel_rfl) wordsS w hsz (fun j b hb => by
      have h2 : (wordsS.data.toList.all fun b => decide (b.toNat < 128)) = true := by kernel_rfl
      have := List.all_eq_true.1 h2 b (List.mem_of_getElem? hb)
      simpa using this) h
    refine k.mono ?_
    rintro e w' ⟨rfl, rfl⟩
    have e1 : (Lib.fields wordsS.data.toList).length = 19 := by kernel_rfl
    exact ⟨by rw [e1], by unfold wordsL; rw [List.map_map]; rfl⟩
  go_enter Tryd.func108, Tryd.ntmps108
  go_wp2_with (go_at_call 141; refine HF.out.mono ?_; rintro e w' ⟨rfl, hw⟩; have HW := Lib.hid hw; clear hw)
  go_ret
  exact ⟨rfl, HW.out⟩
theorem bytes_ne {x y : ByteArray} (h : ¬ x = y) : (x.toList == y.toList) = false := by
  rw [beq_eq_false_iff_ne]
  intro e
  rw [ByteArray.toList_eq, ByteArray.toList_eq] at e
  exact h (by cases x; cases y; simp at e ⊢; exact e)
def SameTo' (xs ys : List ByteArray) (k : Nat) : Prop := ∀ i, i < k → xs[i]? = ys[i]?
theorem SameTo'.succ {xs ys : List ByteArray} {k : Nat} (h : SameTo' xs ys k) (he : xs[k]? = ys[k]?) : SameTo' xs ys (k + 1) := fun i hi => by
  by_cases e : i = k
  · rw [e]; exact he
  · exact h i (by omega)
set_option maxRecDepth 100000 in
theorem equalS_any {S1 S2 : Nat → Prop} {w : World} {a1 a2 : Option Addr} {c1 c2 n1 n2 : Nat} {xs ys : List ByteArray} (hn1 : xs.length = n1) (hn2 : ys.length = n2) (h1 : Arr S1 w a1 xs) (h2 : Arr S2 w a2 ys) :
    Calls Tryd.prog 109 #[.slice a1 n1 c1, .slice a2 n2 c2] w fun e w' => e = .returned (.bool (decide (xs = ys))) ∧ Quiet w w' := by
  have hm1 := h1.small; have hm2 := h2.small
  rw [hn1] at hm1; rw [hn2] at hm2
  unfold maxLen at hm1 hm2
  have H1 := Lib.hid hn1; have H2 := Lib.hid hn2
  clear hn1 hn2
  by_cases hl : n1 = n2
  · subst hl
    have hb : ((n1 : Int) != (n1 : Int)) = false := by simp
    go_enter Tryd.func109, Tryd.ntmps109
    go_wp2_with fail
    go_loopw [13] (fun i w' => ∃ k : Nat, k ≤ n1 ∧ i = .int .i64 k ∧ SameTo' xs ys k ∧ Quiet w w') (fun i _ => n1 - (intOf i).toNat)
    case atStart => exact ⟨0, Nat.zero_le _, rfl, fun i hi => by omega, Quiet.refl _⟩
    case round =>
      obtain ⟨k, hk, rfl, hb, hq⟩ := hrel
      have HQ := Lib.hid hq
      have HB := Lib.hid hb
      have h1' := h1.keep (w' := wr) (fun b _ => hq.heap b)
      have h2' := h2.keep (w' := wr) (fun b _ => hq.heap b)
      clear hb hq
      by_cases hlt : k < n1
      · obtain ⟨x, hx⟩ := get_at H1.out hlt
        obtain ⟨y, hy⟩ := get_at H2.out hlt
        obtain ⟨b1, o1, rfl, -, q1⟩ := arr_string h1' hx
        obtain ⟨b2, o2, rfl, -, q3⟩ := arr_string h2' hy
        have HX := Lib.hid hx; have HY := Lib.hid hy
        clear h1 h2 h1' h2' hx hy
        by_cases he : x = y
        · subst he
          go_wp2
          go_quiet (fail)
          go_wp2
          go_roundw
          case rel => exact ⟨k + 1, by omega, by go_num, HB.out.succ (HX.out.trans HY.out.symm), HQ.out.more _⟩
          case measure => simp [intOf]; omega
        · have hee3 : (x.toList == y.toList) = false := bytes_ne he
          have HE := Lib.hid he
          clear he
          have hne : xs ≠ ys := fun e => HE.out (by have := HX.out; rw [e, HY.out] at this; exact (Option.some.inj this).symm)
          have HNE : Hid (decide (xs = ys) = false) := decide_eq_false hne
          clear hne
          go_wp2
          go_quiet (fail)
          go_wp2
          go_ret
          exact ⟨by rw [HNE.out]; rfl, HQ.out.more _⟩
      · clear h1' h2'
        go_wp2
        go_ret
        have : k = n1 := by omega
        have heq : xs = ys := List.ext_getElem? fun i => by
          by_cases hi : i < k
          · exact HB.out i hi
          · have := H1.out; have := H2.out
            rw [List.getElem?_eq_none (by omega), List.getElem?_eq_none (by omega)]
        exact ⟨by simp [heq], HQ.out⟩
  · have hb : ((n1 : Int) != (n2 : Int)) = true := by simp; omega
    have HL := Lib.hid hl
    clear hl
    go_enter Tryd.func109, Tryd.ntmps109
    go_wp2
    go_ret
    have hne : xs ≠ ys := fun e => HL.out (by rw [← H1.out, ← H2.out, e])
    exact ⟨by simp [hne], Quiet.refl _⟩
def strKey : KeyT Tryd.prog 9 ByteArray where
  val k := .string k
  lit k := .string k.data.toList
  good k := k.size ≤ maxLen
  keyed := string_keyed Tryd.underlying9
  reads k h := Go.WideMaps.keyOf_string_mk Tryd.underlying9 h
  inj k k' h := by injection h
theorem strKey_val (k : ByteArray) : Value.string k = strKey.val k := rfl
/-- A constant that may not be. -/
def badC (p : Api.Prog) (v : Api.Val) : Bool := !(right v) || (decide (v.Kind = 5) || (decide (v.Kind = 4) && decide ((p.Texts.length : Int) ≤ v.N)))
def tablesOk (p : Api.Prog) : Bool := decide (19 ≤ p.Texts.length) && (decide (p.Texts.take 19 = wordsL) && (decide p.Texts.Nodup && !(p.Consts.any (badC p))))
section
variable {a0 a1 a2 : Option Addr} {nF c0 nC c1 nT c2 : Nat}
set_option maxRecDepth 100000 in
theorem tablesC_any {p : Api.Prog} (v : Api.Val) {g : Nat} {w : World} (hb : Blk w g 26 [.slice a0 nF c0, .slice a1 nC c1, .slice a2 nT c2]) (hT : nT = p.Texts.length) (hs : nT ≤ 9223372036854775807) :
    Calls Tryd.prog 111 #[.agg #[.int .i64 v.Kind, .int .i64 v.N], .pointer (some ⟨g, 0, none⟩)] w fun e w' => e = .returned (.bool (badC p v)) ∧ Grow w w' := by
  obtain ⟨k, n⟩ := v
  show Calls Tryd.prog 111 #[.agg #[.int .i64 k, .int .i64 n], .pointer (some ⟨g, 0, none⟩)] w _
  obtain ⟨r, hr⟩ : ∃ r, r = right ⟨k, n⟩ := ⟨_, rfl⟩
  have HE : Hid (badC p ⟨k, n⟩ = (!r || (decide (k = 5) || (decide (k = 4) && decide ((nT : Int) ≤ n))))) := by show _ = _; rw [hr, hT]; rfl
  have HRT : Hid (∀ w, Calls Tryd.prog 112 #[.agg #[.int .i64 k, .int .i64 n]] w fun e w' => e = .returned (.bool r) ∧ RowKit.Below w.heap.size w w') := fun w => by rw [hr]; exact right_any w ⟨k, n⟩
  obtain ⟨w1, hw1⟩ : ∃ w1, w1 = w.alloc (.cells #[.int .i64 k, .int .i64 n] 41) := ⟨_, rfl⟩
  have HB1 : Hid (RowKit.Below w.heap.size w w1) := by show RowKit.Below _ _ _; rw [hw1]; exact below_al2 _
  have hbk := blk_new w [.int .i64 k, .int .i64 n] 41
  rw [← hw1] at hbk
  have hb1 := hb.keep (HB1.out.block _ hb.lt)
  have HCE : Hid (∀ W, RowKit.Below w1.heap.size w1 W → Blk W w.heap.size 41 [.int .i64 k, .int .i64 n] ∧ Blk W g 26 [.slice a0 nF c0, .slice a1 nC c1, .slice a2 nT c2]) := fun W h => ⟨hbk.keep (h.block _ hbk.lt), hb1.keep (h.block _ hb1.lt)⟩
  have p0 := hbk.cell (j := 0) rfl; have p1 := hbk.cell (j := 1) rfl
  have hlt := hbk.lt
  clear hbk hb hb1 hT hr
  go_enter Tryd.func111, Tryd.ntmps111
  go_upto_region 1 with fail
  rw [← hw1]
  clear hw1
  cases r with
  | false =>
    go_wp2_with (go_at_call 112; (with_reducible refine (HRT.out _).mono ?_); rintro e w2 ⟨rfl, hb2⟩; have HB2 := Lib.hid hb2; clear hb2)
    go_ret
    exact ⟨by rw [HE.out]; simp, HB1.out.trans (HB2.out.mono HB1.out.size)⟩
  | true =>
    by_cases k5 : k = 5
    · subst k5
      go_wp2_with (go_at_call 112; (with_reducible refine (HRT.out _).mono ?_); rintro e w2 ⟨rfl, hb2⟩; have HB2 := Lib.hid hb2; obtain ⟨x1, x2⟩ := HCE.out _ hb2; have q0 := x1.cell (j := 0) rfl; have ql := x1.lt; clear hb2 x1 x2)
      go_ret
      exact ⟨by rw [HE.out]; simp, HB1.out.trans (HB2.out.mono HB1.out.size)⟩
    · have n5 : (k == 5) = false := by simpa using k5
      by_cases k4 : k = 4
      · subst k4
        by_cases hn : (nT : Int) ≤ n
        all_goals
          go_wp2_with (go_at_call 112; (with_reducible refine (HRT.out _).mono ?_); rintro e w2 ⟨rfl, hb2⟩; have HB2 := Lib.hid hb2; obtain ⟨x1, x2⟩ := HCE.out _ hb2; have q0 := x1.cell (j := 0) rfl; have q1 := x1.cell (j := 1) rfl; have ql := x1.lt; have y2 := x2.cell (j := 2) rfl; have yl := x2.lt; clear hb2 x1 x2)
          go_ret
          exact ⟨by rw [HE.out]; simp [hn], HB1.out.trans (HB2.out.mono HB1.out.size)⟩
      · have n4 : (k == 4) = false := by simpa using k4
        go_wp2_with (go_at_call 112; (with_reducible refine (HRT.out _).mono ?_); rintro e w2 ⟨rfl, hb2⟩; have HB2 := Lib.hid hb2; obtain ⟨x1, x2⟩ := HCE.out _ hb2; have q0 := x1.cell (j := 0) rfl; have ql := x1.lt; clear hb2 x1 x2)
        go_ret
        exact ⟨by rw [HE.out]; simp [k4, k5], HB1.out.trans (HB2.out.mono HB1.out.size)⟩
def inL (l : List ByteArray) (s : ByteArray) : Bool := l.any fun x => decide (x = s)
theorem inL_iff {l : List ByteArray} {s : ByteArray} : inL l s = true ↔ s ∈ l := by
  unfold inL
  rw [List.any_eq_true]
  constructor
  · rintro ⟨x, hx, h⟩
    have := of_decide_eq_true h
    subst this; exact hx
  · intro h
    exact ⟨s, h, decide_eq_true rfl⟩
def seenF (l : List ByteArray) : ByteArray → Option Value := fun s => if inL l s = true then some (.int .i64 1) else none
theorem seenF_snoc (l : List ByteArray) (t : ByteArray) (s : ByteArray) : (if s = t then some (Value.int .i64 1) else seenF l s) = seenF (l ++ [t]) s := by
  unfold seenF inL
  rw [List.any_append]
  by_cases h : s = t
  · subst h; simp
  · have h2 : decide (t = s) = false := decide_eq_false fun e => h e.symm
    rw [if_neg h]
    simp only [List.any_cons, List.any_nil, h2, Bool.or_false]
theorem arr_string' {S : Nat → Prop} {w : World} {a : Option Addr} {xs : List ByteArray} (h : Arr S w a xs) {k : Nat} {x : ByteArray} (hk : xs[k]? = some x) : x.size ≤ maxLen := by
  obtain ⟨b, off, cs, ha, hb, ⟨rfl, hs⟩, hj⟩ := h.at hk
  exact hs
set_option maxRecDepth 100000 in
theorem zero_int (w : World) : (zeroValue 3).run Tryd.prog w = .ok (.int .i64 0) w := by kernel_rfl
theorem nodup_snoc {l : List ByteArray} {k : Nat} {t : ByteArray} (h : l[k]? = some t) : (l.take (k + 1)).Nodup ↔ (l.take k).Nodup ∧ t ∉ l.take k := by
  rw [List.take_add_one, h]
  simp [List.nodup_append]
  intro _
  constructor
  · intro h2 h3; exact h2 t h3 rfl
  · intro h2 a ha e; subst e; exact h2 ha
theorem nodup_take {l : List ByteArray} (h : l.Nodup) (k : Nat) : (l.take k).Nodup := h.sublist (List.take_sublist _ _)
set_option maxRecDepth 100000 in
set_option maxHeartbeats 1000000 in
theorem tables_any {S : Nat → Prop} {w : World} {p : Api.Prog} (h : PgAt S w a0 a1 a2 nF nC nT p) (hS : ∀ b, S b → b < w.heap.size) (hA : Asc w) (hT2 : nT ≤ c2) (bT : nT ≤ 1000) :
    Calls Tryd.prog 70 #[pgV a0 a1 a2 nF c0 nC c1 nT c2] w fun e w' => e = .returned (.bool (tablesOk p)) ∧ RowKit.Below w.heap.size w w' := by
  obtain ⟨w1, hw1⟩ : ∃ w1, w1 = w.alloc (.cells #[.slice a0 nF c0, .slice a1 nC c1, .slice a2 nT c2] 26) := ⟨_, rfl⟩
  have hbk := blk_new w [.slice a0 nF c0, .slice a1 nC c1, .slice a2 nT c2] 26
  rw [← hw1] at hbk
  have HB1 : Hid (RowKit.Below w.heap.size w w1) := by show RowKit.Below _ _ _; rw [hw1]; exact below_al2 _
  obtain ⟨w2, hw2⟩ : ∃ w2, w2 = w1.alloc (.cells (wordsL.map Value.string).toArray 9) := ⟨_, rfl⟩
  have HW : Hid (Calls Tryd.prog 108 #[] w1 fun e w' => e = .returned (.slice (some ⟨w1.heap.size, 0, none⟩) 19 19) ∧ w' = w2) := by
    rw [hw2]; exact words_any (hA.keep HB1.out)
  have hwk := blk_new w1 (wordsL.map Value.string) 9
  rw [← hw2] at hwk
  have HB2 : Hid (RowKit.Below w1.heap.size w1 w2) := by show RowKit.Below _ _ _; rw [hw2]; exact below_al2 _
  have HBW : Hid (RowKit.Below w.heap.size w w2) := HB1.out.trans (HB2.out.mono HB1.out.size)
  have HBX : Hid (Blk w2 w.heap.size 26 [.slice a0 nF c0, .slice a1 nC c1, .slice a2 nT c2]) := hbk.keep (HB2.out.block _ hbk.lt)
  have HCE : Hid (∀ W, RowKit.Below w2.heap.size w2 W → Blk W w.heap.size 26 [.slice a0 nF c0, .slice a1 nC c1, .slice a2 nT c2] ∧ PgAt S W a0 a1 a2 nF nC nT p ∧ (∀ b, S b → b < W.heap.size) ∧ RowKit.Below w.heap.size w W) := fun W hb => by
    have hbw : RowKit.Below w.heap.size w W := HBW.out.trans (hb.mono HBW.out.size)
    exact ⟨HBX.out.keep (hb.block _ HBX.out.lt), h.keep fun b hb' => hbw.block b (hS b hb'), fun b hb' => Nat.lt_of_lt_of_le (hS b hb') hbw.size, hbw⟩
  have HE : Hid (tablesOk p = (decide (19 ≤ nT) && (decide (p.Texts.take 19 = wordsL) && (decide p.Texts.Nodup && !(p.Consts.any (badC p)))))) := by show _ = _; rw [h.lenT]; rfl
  have HEQ : Hid (19 ≤ nT → Calls Tryd.prog 109 #[.slice a2 19 c2, .slice (some ⟨w1.heap.size, 0, none⟩) 19 19] w2 fun e w' => e = .returned (.bool (decide (p.Texts.take 19 = wordsL))) ∧ Quiet w2 w') := fun h19 => by
    refine equalS_any (S1 := S) (S2 := fun b => b = w1.heap.size) (by rw [List.length_take, ← h.lenT]; omega) wordsL_len ((h.texts.take 19).keep fun b hb => HBW.out.block b (hS b hb)) ?_
    exact blk_strs hwk wordsL_small (by rw [wordsL_len]; unfold maxLen; omega) rfl
  have HLT := Lib.hid h.lenT
  have HNT := Lib.hid h.nilT
  have hl1 := hbk.lt
  have p2 := hbk.cell (j := 2) rfl
  clear h hS hA hwk hw2
  go_enter Tryd.func70, Tryd.ntmps70
  go_upto_region 1 with fail
  rw [← hw1]
  clear hw1 hbk
  go_upto_region 2 with (go_at_call 108; (with_reducible refine HW.out.mono ?_); rintro e wq ⟨rfl, rfl⟩)
  have q2 := HBX.out.cell (j := 2) rfl
  have hl2 := HBX.out.lt
  clear hl1 p2
  by_cases d19 : nT < 19
  · have d := decide_eq_true (p := nT < 19) d19
    go_wp2_with fail
    go_ret
    exact ⟨by rw [HE.out]; simp; omega, HBW.out⟩
  have dd : decide (nT < 19) = false := decide_eq_false d19
  have dd2 : decide ((nT : Int) < 19) = false := decide_eq_false (by omega)
  have hsl : ∀ w' : World, (Instr.slice 24 (.slice a2 nT c2) none (some (.int .i64 19)) none).run Tryd.prog w' = .ok (.slice a2 19 c2) w' := fun w' =>
    run_slice_head (z := 1) Tryd.underlying24 (by kernel_rfl) _ nT c2 19 (by omega) w'
  obtain ⟨eq, heq⟩ : ∃ b, b = decide (p.Texts.take 19 = wordsL) := ⟨_, rfl⟩
  have HEQ := Lib.hid (HEQ.out (by omega))
  have HE : Hid (tablesOk p = (eq && (decide p.Texts.Nodup && !(p.Consts.any (badC p))))) := by
    show _ = _
    rw [HE.out, heq, decide_eq_true (by omega : 19 ≤ nT), Bool.true_and]
  rw [← heq] at HEQ
  clear heq
  cases eq with
  | false =>
    go_wp2_with (go_at_call 109; (with_reducible refine HEQ.out.mono ?_); rintro e w5 ⟨rfl, hq5⟩; have HQ5 := Lib.hid (hq5.below wq.heap.size); clear hq5)
    go_ret
    exact ⟨by rw [HE.out]; rfl, (HCE.out _ HQ5.out).2.2.2⟩
  | true =>
    have hmm := @run_makeMap Tryd.prog
    go_upto_region 5 with (go_at_call 109; (with_reducible refine HEQ.out.mono ?_); rintro e w5 ⟨rfl, hq5⟩; have HQ5 := Lib.hid (hq5.below wq.heap.size); clear hq5)
    have HM0 := Lib.hid (GMap.made strKey w5)
    have HB6 : Hid (RowKit.Below wq.heap.size wq (w5.alloc (.map #[] 0))) := HQ5.out.alloc HQ5.out.size _
    have hgm := HQ5.out.size
    obtain ⟨gm, hgm'⟩ : ∃ gm, gm = w5.heap.size := ⟨_, rfl⟩
    rw [← hgm'] at HM0 hgm ⊢
    obtain ⟨w6, hw6⟩ : ∃ w6, w6 = w5.alloc (.map #[] 0) := ⟨_, rfl⟩
    rw [← hw6] at HM0 HB6 ⊢
    have p2 := (HCE.out _ HB6.out).1.cell (j := 2) rfl
    have hl3 := (HCE.out _ HB6.out).1.lt
    clear q2 hl2 hgm' hw6 HEQ hmm
    go_wp2_with fail
    go_loopw [28] (fun i wr => ∃ k : Nat, k ≤ nT ∧ i = .int .i64 k ∧ (p.Texts.take k).Nodup ∧ GMap strKey wr gm k (seenF (p.Texts.take k)) ∧ RowKit.Below wq.heap.size wq wr) (fun i _ => nT - (intOf i).toNat)
    case atStart => exact ⟨0, Nat.zero_le _, rfl, by simp, HM0.out.congr (fun x => by simp [seenF, inL]), HB6.out⟩
    case round =>
      obtain ⟨k, hk, rfl, hnd, hgmr, hbr⟩ := hrel
      have HND := Lib.hid hnd; have HGM := Lib.hid hgmr; have HBR := Lib.hid hbr
      obtain ⟨r1, r2, r3, r4⟩ := HCE.out wr hbr
      have HR2 := Lib.hid r2; have HR3 := Lib.hid r3
      have y1 := r1.cell (j := 1) rfl
      have hl4 := r1.lt
      clear hnd hgmr hbr p2 hl3 r1 r2 r3 r4
      by_cases hlt : k < nT
      · obtain ⟨t, ht⟩ : ∃ t, p.Texts[k]? = some t := ⟨_, List.getElem?_eq_getElem (by rw [← HLT.out]; exact hlt)⟩
        have HG : Hid (strKey.good t) := arr_string' HR2.out.texts ht
        obtain ⟨bt, ot, rfl, hSb, y0⟩ := arr_string HR2.out.texts ht
        have hbt := HR3.out bt hSb
        have HT := Lib.hid ht
        have hk9 : k < 1000000000 := by omega
        cases hin : inL (p.Texts.take k) t with
        | true =>
          have HF : Hid (tablesOk p = false) := by
            show _ = _
            have : decide p.Texts.Nodup = false := decide_eq_false fun hn => ((nodup_snoc HT.out).1 (nodup_take hn (k + 1))).2 (inL_iff.1 hin)
            rw [HE.out, this]; rfl
          have HV : Hid ((seenF (p.Texts.take k) t).getD (.int .i64 0) = .int .i64 1) := by show _ = _; unfold seenF; rw [if_pos hin]; rfl
          clear ht hin
          go_wp2_with (at_lookup; (with_reducible refine wp_gmap_get rfl rfl Tryd.underlying165 (zero_int _) rfl HGM.out (k := t) (Eq.trans (b := .string t) rfl (strKey_val _)) HG.out ?_); rw [HV.out])
          go_ret
          exact ⟨by rw [HF.out]; rfl, (HCE.out _ HBR.out).2.2.2⟩
        | false =>
          have HV : Hid ((seenF (p.Texts.take k) t).getD (.int .i64 0) = .int .i64 0) := by show _ = _; unfold seenF; rw [hin]; rfl
          have HN2 : Hid ((p.Texts.take (k + 1)).Nodup) := (nodup_snoc HT.out).2 ⟨HND.out, fun h => by rw [inL_iff.2 h] at hin; cases hin⟩
          have HTK : Hid (p.Texts.take (k + 1) = p.Texts.take k ++ [t]) := by show _ = _; rw [List.take_add_one, HT.out]; rfl
          clear ht hin
          go_wp2_with (first
            | (at_lookup; (with_reducible refine wp_gmap_get rfl rfl Tryd.underlying165 (zero_int _) rfl HGM.out (k := t) (Eq.trans (b := .string t) rfl (strKey_val _)) HG.out ?_); rw [HV.out])
            | (at_mapUpdate; (with_reducible refine wp_gmap_put rfl rfl Tryd.underlying165 rfl HGM.out hk9 (k := t) (Eq.trans (b := .string t) rfl (strKey_val _)) rfl HG.out fun w7 hm' hg' => ?_); have HM' := Lib.hid hm'; have HG' := Lib.hid hg'; clear hm' hg'))
          go_roundw
          case rel => exact ⟨k + 1, by omega, by go_num, HN2.out, HM'.out.congr (fun x => by rw [HTK.out]; exact seenF_snoc _ _ _), HBR.out.grown HG'.out HBR.out.size (fun r hr => by have := Option.some.inj hr; omega)⟩
          case measure => simp [intOf]; omega
      · have hkn : k = p.Texts.length := by have := HLT.out; omega
        have hnd : decide p.Texts.Nodup = true := decide_eq_true (by have := HND.out; rw [hkn, List.take_length] at this; exact this)
        have HE2 : Hid (tablesOk p = !(p.Consts.any (badC p))) := by show _ = _; rw [HE.out, hnd]; rfl
        have HC : Hid (Calls Tryd.prog 110 #[.slice a1 nC c1, .func (.func 111) #[] #[.pointer (some ⟨w.heap.size, 0, none⟩)]] wr fun e w' => e = .returned (.bool (p.Consts.any (badC p))) ∧ RowKit.Below wr.heap.size wr w') := by
          have hp : ∀ (y : Api.Val) (wx : World), y ∈ p.Consts → Grow wr wx → Calls Tryd.prog 111 (#[.agg #[.int .i64 y.Kind, .int .i64 y.N]] ++ #[.pointer (some ⟨w.heap.size, 0, none⟩)]) wx fun e w' => e = .returned (.bool (badC p y)) ∧ Grow wx w' := fun y wx _ hg => by
            have hb := (HCE.out wx (HBR.out.trans (hg.mono HBR.out.size))).1
            exact tablesC_any y hb HLT.out (by omega)
          exact containsV_any (c := c1) (F := 111) (caps := #[.pointer (some ⟨w.heap.size, 0, none⟩)]) mild_grow HR2.out.lenC.symm HR2.out.consts HR3.out (fun _ _ => by simp) hp
        obtain ⟨an, han⟩ : ∃ b, b = p.Consts.any (badC p) := ⟨_, rfl⟩
        rw [← han] at HC HE2
        clear hnd hkn han
        go_wp2_with (go_at_call 110; (with_reducible refine HC.out.mono ?_); rintro e w8 ⟨rfl, hb8⟩; have HB8 := Lib.hid hb8; clear hb8)
        go_ret
        exact ⟨by rw [HE2.out]; rfl, (HCE.out _ (HBR.out.trans (HB8.out.mono HBR.out.size))).2.2.2⟩
end
end Go.Proofs.YtekofpigmggbbaaDoor.cod

/- code.Check: walked: what it answers, whatever program. -/
namespace Go.Proofs.YtekofpigmggbbaaDoor.cod
open Go.Bk Go.RowKit Go.Maps Go.Proofs.YtekofpigmggbbaaDoor.funs

/-- Is the first function such as it must be? -/
def mainOk (p : Api.Prog) : Bool := match p.Fns with
  | [] => false
  | f :: _ => decide (f.Params = 0) && (decide (f.Caught = []) && !f.Gen)
/-- The number that it answers: 0 that it is right. -/
def codeChk (p : Api.Prog) : Int :=
  if large p = true then 2
  else if tablesOk p = false then 3
  else if mainOk p = false then 3
  else if (p.Fns.any fun f => !funcOk p f) = true then 3
  else 0
section
variable {a0 a1 a2 : Option Addr} {nF c0 nC c1 nT c2 : Nat}
theorem fn_bounds {p : Api.Prog} (h : large p = false) : p.Fns.length ≤ 60 ∧ p.Consts.length ≤ 200 ∧ p.Texts.length ≤ 200 ∧ ∀ f ∈ p.Fns, f.Code.length ≤ 600 ∧ f.Regs ≤ 60 := by
  unfold large at h
  simp only [Bool.or_eq_false_iff, decide_eq_false_iff_not, List.any_eq_false, Bool.or_eq_true, decide_eq_true_eq] at h
  obtain ⟨h1, h2, h3, h4, h5⟩ := h
  refine ⟨by omega, by omega, by omega, fun f hf => ?_⟩
  have := h5 f hf
  omega
set_option maxRecDepth 100000 in
theorem checkF_any {S : Nat → Prop} {p : Api.Prog} {f : Api.Fn} {cs : List Value} {g : Nat} {w : World} (hl : large p = false) (hm : f ∈ p.Fns) (hb : Blk w g 26 [.slice a0 nF c0, .slice a1 nC c1, .slice a2 nT c2]) (h : PgAt S w a0 a1 a2 nF nC nT p) (hS : ∀ b, S b → b < w.heap.size) (hc : Rep.cells S w cs f) :
    Calls Tryd.prog 72 #[.agg cs.toArray, .pointer (some ⟨g, 0, none⟩)] w fun e w' => e = .returned (.bool (!funcOk p f)) ∧ Grow w w' := by
  obtain ⟨b1, b2, b3, b4⟩ := fn_bounds hl
  obtain ⟨b5, b6⟩ := b4 f hm
  obtain ⟨a3, c3, a4, c4, rfl, -, -, hq3, hq4⟩ := api_Fn_cells_eq hc
  obtain ⟨n3, hn3⟩ : ∃ n, n = f.Caught.length := ⟨_, rfl⟩
  obtain ⟨n4, hn4⟩ : ∃ n, n = f.Code.length := ⟨_, rfl⟩
  rw [← hn3, ← hn4]
  obtain ⟨w1, hw1⟩ : ∃ w1, w1 = w.alloc (.cells #[.int .i64 f.Params, .int .i64 f.Regs, .bool f.Gen, .slice a3 n3 c3, .slice a4 n4 c4] 123) := ⟨_, rfl⟩
  have HB1 : Hid (RowKit.Below w.heap.size w w1) := by show RowKit.Below _ _ _; rw [hw1]; exact below_al2 _
  have hbk := blk_new w [.int .i64 f.Params, .int .i64 f.Regs, .bool f.Gen, .slice a3 n3 c3, .slice a4 n4 c4] 123
  rw [← hw1] at hbk
  have hk : ∀ b, S b → w1.heap[b]? = w.heap[b]? := fun b hb' => HB1.out.block b (hS b hb')
  have hbp := hb.keep (HB1.out.block _ hb.lt)
  obtain ⟨ok, hok⟩ : ∃ ok, ok = funcOk p f := ⟨_, rfl⟩
  have HFN : Hid (Calls Tryd.prog 73 #[.agg #[.slice a0 nF c0, .slice a1 nC c1, .slice a2 nT c2], .agg #[.int .i64 f.Params, .int .i64 f.Regs, .bool f.Gen, .slice a3 n3 c3, .slice a4 n4 c4]] w1 fun e w' => e = .returned (.bool ok) ∧ RowKit.Below w1.heap.size w1 w') := by
    rw [hok]
    exact function_any (h.keep hk) (hq3.2.2.keep hk) (hq4.2.2.keep hk) (fun b hb' => Nat.lt_of_lt_of_le (hS b hb') HB1.out.size) hn3 hn4 rfl rfl rfl (by rw [h.lenF]; omega) (by rw [h.lenC]; omega) (by rw [h.lenT]; omega) (by omega) (by omega)
  rw [← hok]
  have p0 := hbk.cell (j := 0) rfl; have p1 := hbk.cell (j := 1) rfl; have p2 := hbk.cell (j := 2) rfl; have p3 := hbk.cell (j := 3) rfl; have p4 := hbk.cell (j := 4) rfl
  have q0 := hbp.cell (j := 0) rfl; have q1 := hbp.cell (j := 1) rfl; have q2 := hbp.cell (j := 2) rfl
  have hl1 := hbk.lt; have hl2 := hbp.lt
  show Calls Tryd.prog 72 #[.agg #[.int .i64 f.Params, .int .i64 f.Regs, .bool f.Gen, .slice a3 n3 c3, .slice a4 n4 c4], .pointer (some ⟨g, 0, none⟩)] w _
  clear hl hm hb h hS hc b1 b2 b3 b4 b5 b6 hq3 hq4 hn3 hn4 hbk hbp hk hok
  go_enter Tryd.func72, Tryd.ntmps72
  go_upto_region 1 with fail
  rw [← hw1]
  clear hw1
  go_wp2_with (go_at_call 73; (with_reducible refine HFN.out.mono ?_); rintro e w2 ⟨rfl, hb2⟩; have HB2 := Lib.hid hb2; clear hb2)
  go_ret
  exact ⟨rfl, HB1.out.trans (HB2.out.mono HB1.out.size)⟩
set_option maxRecDepth 100000 in
set_option maxHeartbeats 1000000 in
theorem check_any {S : Nat → Prop} {w : World} {p : Api.Prog} (h : PgAt S w a0 a1 a2 nF nC nT p) (hS : ∀ b, S b → b < w.heap.size) (hA : Asc w) (hT2 : nT ≤ c2) :
    Calls Tryd.prog 25 #[pgV a0 a1 a2 nF c0 nC c1 nT c2] w fun e w' => e = .returned (.int .i64 (codeChk p)) ∧ RowKit.Below w.heap.size w w' := by
  obtain ⟨w1, hw1⟩ : ∃ w1, w1 = w.alloc (.cells #[.slice a0 nF c0, .slice a1 nC c1, .slice a2 nT c2] 26) := ⟨_, rfl⟩
  have hbk := blk_new w [.slice a0 nF c0, .slice a1 nC c1, .slice a2 nT c2] 26
  rw [← hw1] at hbk
  have HB1 : Hid (RowKit.Below w.heap.size w w1) := by show RowKit.Below _ _ _; rw [hw1]; exact below_al2 _
  have HBK := Lib.hid hbk
  have HCE : Hid (∀ W, RowKit.Below w1.heap.size w1 W → Blk W w.heap.size 26 [.slice a0 nF c0, .slice a1 nC c1, .slice a2 nT c2] ∧ PgAt S W a0 a1 a2 nF nC nT p ∧ (∀ b, S b → b < W.heap.size) ∧ RowKit.Below w.heap.size w W ∧ Asc W) := fun W hb => by
    have hbw : RowKit.Below w.heap.size w W := HB1.out.trans (hb.mono HB1.out.size)
    exact ⟨HBK.out.keep (hb.block _ HBK.out.lt), h.keep fun b hb' => hbw.block b (hS b hb'), fun b hb' => Nat.lt_of_lt_of_le (hS b hb') hbw.size, hbw, hA.keep hbw⟩
  have HC : Hid (codeChk p = if large p = true then 2
  else if tablesOk p = false then 3
  else if mainOk p = false then 3
  else if (p.Fns.any fun f => !funcOk p f) = true then 3
  else 0) := rfl
  obtain ⟨l1, l2, l3, l4, l5⟩ := HCE.out w1 (RowKit.Below.refl _ _)
  have HLA : Hid (Calls Tryd.prog 69 #[.agg #[.slice a0 nF c0, .slice a1 nC c1, .slice a2 nT c2]] w1 fun e w' => e = .returned (.bool (large p)) ∧ RowKit.Below w1.heap.size w1 w') := large_any l2 l3
  have p0 := l1.cell (j := 0) rfl; have p1 := l1.cell (j := 1) rfl; have p2 := l1.cell (j := 2) rfl
  have hl1 := l1.lt
  obtain ⟨lg, hlg⟩ : ∃ b, b = large p := ⟨_, rfl⟩
  rw [← hlg] at HLA HC
  have HLG := Lib.hid hlg
  have HP := Lib.hid h
  clear h hS hA l1 l2 l3 l4 l5 hbk hlg
  go_enter Tryd.func25, Tryd.ntmps25
  go_upto_region 1 with fail
  rw [← hw1]
  clear hw1
  cases lg with
  | true =>
    go_wp2_with (go_at_call 69; (with_reducible refine HLA.out.mono ?_); rintro e w2 ⟨rfl, hb2⟩; have HB2 := Lib.hid hb2; clear hb2)
    go_ret
    exact ⟨by rw [HC.out]; rfl, (HCE.out _ HB2.out).2.2.2.1⟩
  | false =>
    have hbd := fn_bounds HLG.out.symm
    have hnF : nF ≤ 60 := by rw [HP.out.lenF]; exact hbd.1
    have hnT : nT ≤ 200 := by rw [HP.out.lenT]; exact hbd.2.2.1
    clear hbd
    go_upto_region 3 with (go_at_call 69; (with_reducible refine HLA.out.mono ?_); rintro e w2 ⟨rfl, hb2⟩; have HB2 := Lib.hid hb2; clear hb2)
    obtain ⟨l1, l2, l3, l4, l5⟩ := HCE.out w2 HB2.out
    have HTA : Hid (Calls Tryd.prog 70 #[.agg #[.slice a0 nF c0, .slice a1 nC c1, .slice a2 nT c2]] w2 fun e w' => e = .returned (.bool (tablesOk p)) ∧ RowKit.Below w1.heap.size w1 w') := (tables_any l2 l3 l5 hT2 (by omega)).mono fun e w' ⟨he, hb⟩ => ⟨he, HB2.out.trans (hb.mono HB2.out.size)⟩
    have r0 := l1.cell (j := 0) rfl; have r1 := l1.cell (j := 1) rfl; have r2 := l1.cell (j := 2) rfl
    have hl2 := l1.lt
    obtain ⟨tb, htb⟩ : ∃ b, b = tablesOk p := ⟨_, rfl⟩
    rw [← htb] at HTA HC
    clear l1 l2 l3 l4 l5 p0 p1 p2 hl1 htb HLA
    cases tb with
    | false =>
      go_wp2_with (go_at_call 70; (with_reducible refine HTA.out.mono ?_); rintro e w3 ⟨rfl, hb3⟩; have HB3 := Lib.hid hb3; clear hb3)
      go_ret
      exact ⟨by rw [HC.out]; rfl, (HCE.out _ HB3.out).2.2.2.1⟩
    | true =>
      have HC : Hid (codeChk p = if mainOk p = false then 3 else if (p.Fns.any fun f => !funcOk p f) = true then 3 else 0) := by show _ = _; rw [HC.out]; rfl
      by_cases hz : nF = 0
      · have HC : Hid (codeChk p = 3) := by
          show _ = _
          have : p.Fns = [] := List.eq_nil_of_length_eq_zero (by rw [← HP.out.lenF]; exact hz)
          rw [HC.out]; unfold mainOk; rw [this]; rfl
        subst hz
        have HZ : Hid (∀ W, RowKit.Below w1.heap.size w1 W → W.cell? ⟨w.heap.size, 0, none⟩ = some (.slice a0 0 c0) ∧ w.heap.size < W.heap.size) := fun W hb => ⟨(HCE.out W hb).1.cell (j := 0) rfl, (HCE.out W hb).1.lt⟩
        go_wp2_with (go_at_call 70; (with_reducible refine HTA.out.mono ?_); rintro e w3 ⟨rfl, hb3⟩; have HB3 := Lib.hid hb3; obtain ⟨s0, s1⟩ := HZ.out w3 hb3; clear hb3)
        go_ret
        exact ⟨by rw [HC.out]; rfl, (HCE.out _ HB3.out).2.2.2.1⟩
      · obtain ⟨f0, hf0⟩ : ∃ f, p.Fns[0]? = some f := ⟨_, List.getElem?_eq_getElem (by rw [← HP.out.lenF]; omega)⟩
        obtain ⟨b, off, a3, c3, a4, c4, rfl, hSb, x0, x1, x2, x3, -⟩ := api_Fn_elem (HCE.out w1 (RowKit.Below.refl _ _)).2.1.fns hf0
        have hbb := (HCE.out w1 (RowKit.Below.refl _ _)).2.2.1 b hSb
        have hF0 : 0 < nF := by omega
        have e0 : off + 0 * 5 = off := by omega
        rw [e0] at x0 x1 x2 x3
        obtain ⟨n3, hn3⟩ : ∃ n, n = f0.Caught.length := ⟨_, rfl⟩
        obtain ⟨pp, hpp⟩ : ∃ n, n = f0.Params := ⟨_, rfl⟩
        obtain ⟨gg, hgg⟩ : ∃ n, n = f0.Gen := ⟨_, rfl⟩
        rw [← hn3] at x3
        rw [← hpp] at x0
        rw [← hgg] at x2
        have HMO : Hid (mainOk p = (decide (pp = 0) && (decide (n3 = 0) && !gg))) := by
          show _ = _
          unfold mainOk
          cases hF : p.Fns with
          | nil => rw [hF] at hf0; simp at hf0
          | cons f l =>
            rw [hF] at hf0
            simp at hf0
            subst hf0
            rw [hn3, hpp, hgg]
            simp
        have HZ : Hid (∀ W, RowKit.Below w1.heap.size w1 W → W.cell? ⟨w.heap.size, 0, none⟩ = some (.slice (some ⟨b, off, none⟩) nF c0) ∧ w.heap.size < W.heap.size ∧ W.cell? ⟨b, off, none⟩ = some (.int .i64 pp) ∧ W.cell? ⟨b, off + 2, none⟩ = some (.bool gg) ∧ W.cell? ⟨b, off + 3, none⟩ = some (.slice a3 n3 c3) ∧ b < W.heap.size) := fun W hb => by
          have hk := hb.block b hbb
          exact ⟨(HCE.out W hb).1.cell (j := 0) rfl, (HCE.out W hb).1.lt, (World.cell?_of_block (a := ⟨b, off, none⟩) hk).trans x0, (World.cell?_of_block (a := ⟨b, off + 2, none⟩) hk).trans x2, (World.cell?_of_block (a := ⟨b, off + 3, none⟩) hk).trans x3, Nat.lt_of_lt_of_le hbb hb.size⟩
        have hs3 : n3 ≤ 9223372036854775807 := by
          obtain ⟨_, _, _, _, _, _, _, _, _, _, _, _, _, _, _, h3, _⟩ := api_Fn_elem (HCE.out w1 (RowKit.Below.refl _ _)).2.1.fns hf0
          have := h3.2.2.small
          unfold maxLen at this
          omega
        have hz2 : ((nF : Int) == 0) = false := by simp; omega
        clear hf0 x0 x1 x2 x3 e0 hSb hn3 hpp hgg hz
        by_cases dp : pp = 0
        · subst dp
          by_cases d3 : n3 = 0
          · have d4 : decide (0 < n3) = false := decide_eq_false (by omega)
            have d5 : decide (0 < (n3 : Int)) = false := decide_eq_false (by omega)
            cases gg with
            | true =>
              have HC : Hid (codeChk p = 3) := by show _ = _; rw [HC.out, HMO.out]; simp
              clear d3
              go_wp2_with (go_at_call 70; (with_reducible refine HTA.out.mono ?_); rintro e w3 ⟨rfl, hb3⟩; have HB3 := Lib.hid hb3; obtain ⟨s0, s1, s2, s3, s4, s5⟩ := HZ.out w3 hb3; clear hb3)
              go_ret
              exact ⟨by rw [HC.out]; rfl, (HCE.out _ HB3.out).2.2.2.1⟩
            | false =>
              have HC : Hid (codeChk p = if (p.Fns.any fun f => !funcOk p f) = true then 3 else 0) := by show _ = _; rw [HC.out, HMO.out]; simp [d3]
              have HCF : Hid (∀ W, RowKit.Below w1.heap.size w1 W → Calls Tryd.prog 71 #[.slice (some ⟨b, off, none⟩) nF c0, .func (.func 72) #[] #[.pointer (some ⟨w.heap.size, 0, none⟩)]] W fun e w' => e = .returned (.bool (p.Fns.any fun f => !funcOk p f)) ∧ RowKit.Below w1.heap.size w1 w') := fun W hW => by
                obtain ⟨m1, m2, m3, m4, m5⟩ := HCE.out W hW
                have k := containsF_any (c := c0) (F := 72) (caps := #[.pointer (some ⟨w.heap.size, 0, none⟩)]) (p := fun f => !funcOk p f) mild_grow HP.out.lenF.symm m2.fns m3 (fun _ _ => by simp)
                  (fun y cs wx hy hc hg => by
                    obtain ⟨k1, k2, k3, k4, k5⟩ := HCE.out wx (hW.trans (hg.mono hW.size))
                    exact checkF_any HLG.out.symm hy k1 k2 k3 hc)
                exact k.mono fun e w' ⟨he, hg⟩ => ⟨he, hW.trans (hg.mono hW.size)⟩
              obtain ⟨an, han⟩ : ∃ b, b = (p.Fns.any fun f => !funcOk p f) := ⟨_, rfl⟩
              rw [← han] at HC HCF
              clear d3 han
              cases an
              all_goals
                go_wp2_with (first
                  | (go_at_call 70; (with_reducible refine HTA.out.mono ?_); rintro e w3 ⟨rfl, hb3⟩; have HB3 := Lib.hid hb3; obtain ⟨s0, s1, s2, s3, s4, s5⟩ := HZ.out w3 hb3; clear hb3)
                  | (go_at_call 71; (with_reducible refine (HCF.out _ HB3.out).mono ?_); rintro e w4 ⟨rfl, hb4⟩; have HB4 := Lib.hid hb4; clear hb4))
                go_ret
                exact ⟨by rw [HC.out]; rfl, (HCE.out _ HB4.out).2.2.2.1⟩
          · have d4 : decide (0 < n3) = true := decide_eq_true (by omega)
            have d5 : decide (0 < (n3 : Int)) = true := decide_eq_true (by omega)
            have HC : Hid (codeChk p = 3) := by show _ = _; rw [HC.out, HMO.out]; simp [d3]
            clear d3
            go_wp2_with (go_at_call 70; (with_reducible refine HTA.out.mono ?_); rintro e w3 ⟨rfl, hb3⟩; have HB3 := Lib.hid hb3; obtain ⟨s0, s1, s2, s3, s4, s5⟩ := HZ.out w3 hb3; clear hb3)
            go_ret
            exact ⟨by rw [HC.out]; rfl, (HCE.out _ HB3.out).2.2.2.1⟩
        · have d1 : (pp != 0) = true := by simpa using dp
          have HC : Hid (codeChk p = 3) := by show _ = _; rw [HC.out, HMO.out]; simp [dp]
          clear dp
          go_wp2_with (go_at_call 70; (with_reducible refine HTA.out.mono ?_); rintro e w3 ⟨rfl, hb3⟩; have HB3 := Lib.hid hb3; obtain ⟨s0, s1, s2, s3, s4, s5⟩ := HZ.out w3 hb3; clear hb3)
          go_ret
          exact ⟨by rw [HC.out]; rfl, (HCE.out _ HB3.out).2.2.2.1⟩
end
end Go.Proofs.YtekofpigmggbbaaDoor.cod
