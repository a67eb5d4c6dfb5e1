/- HuntTells: the suspects, walked: the library's DeleteFunc, and the two functions that are handed on. -/
import Derived.Test.YtfdpannanpipdaaHuntA
import Derived.Test.YtfdpannanpipdaaContains
import Derived.Test.YtfdpannanpipdaaCloneI
import Derived.Test.YtfdpannanpipdaaNumF
import Derived.Lib.SliceRun
import Derived.Test.YtfdpannanpipdaaRowsOwn
set_option linter.unusedVariables false
set_option linter.unusedSimpArgs false
namespace Go.Proofs.Ytfdpannanpipdaa.hunt
open Go.Bk Go.RowKit slice

theorem hunter_row {w : World} {lo hp n g : Nat} {l : List Api.DDep} (h : Hunter w lo hp l n) (hg : g < n) : ∃ (b off c : Nat) (a' : Option Addr) (c' : Nat),
    w.cell? ⟨hp, 0, none⟩ = some (.slice (some ⟨b, off, none⟩) n c) ∧ w.cell? ⟨b, off + g, none⟩ = some (.slice a' (backL l g).length c') ∧ (backL l g).length ≤ c' ∧ (a' = none → c' = 0) ∧ Arr (fun b => lo ≤ b ∧ b < w.heap.size) w a' (backL l g) ∧ hp < w.heap.size ∧ b < w.heap.size := by
  obtain ⟨a, c, h1, h2, h3, h4⟩ := h
  obtain ⟨b, off, a', c', rfl, hb, q, hc, hn, ha⟩ := norm.arr_list h4 (backsTo_get l hg)
  exact ⟨b, off, c, a', c', h1, q, hc, hn, ha, h3, hb.2⟩

set_option maxRecDepth 100000 in
theorem fn2_any {w : World} {lo hp hb nb n g k : Nat} {l : List Api.DDep} (hH : Hunter w lo hp l n) (hn : l.length = n) (c1 : w.cell? ⟨hb, 0, none⟩ = some (.pointer (some ⟨hp, 0, none⟩))) (c2 : w.cell? ⟨nb, 0, none⟩ = some (.int .i64 (k : Nat))) (hg : g < n) (hk : k < n) (hn2 : n ≤ 200) :
    Calls Try.prog 119 #[.int .i64 (g : Nat), .pointer (some ⟨hb, 0, none⟩), .pointer (some ⟨nb, 0, none⟩)] w fun e w' => e = .returned (.bool (hangs l g k)) ∧ Quiet w w' := by
  obtain ⟨b, off, c, a', c', q1, q2, -, -, ha, -, -⟩ := hunter_row hH hg
  obtain ⟨m, hm⟩ : ∃ m, (backL l g).length = m := ⟨_, rfl⟩
  rw [hm] at q2
  have hC : ∀ j, Calls Try.prog 115 #[.slice a' m c', .int .i64 (k : Nat)] (w.drewN j) fun e w' => e = .returned (.bool (hangs l g k)) ∧ Quiet (w.drewN j) w' := fun j => by
    have h1 : Arr (fun b => lo ≤ b ∧ b < w.heap.size) (w.drewN j) a' (backL l g) := Arr.keep (w := w) (fun _ _ => rfl) ha
    refine (has.contains_at (c := c') (x := (k : Int)) hm h1).mono ?_
    rintro e w' ⟨rfl, rfl⟩
    exact ⟨by congr 2; exact filt_contains (by rw [hn]; exact hk), Quiet.refl _⟩
  have HC := Lib.hid hC
  clear hC ha hm hH hn
  go_enter Try.func119, Try.ntmps119
  go_wp2_with fail
  first | (refine wp_region_quiet_lit (by kernel_rfl) (by kernel_rfl) ?_; (repeat (go_big_quiet_step ((go_at_call 115; exact quiet_of (HC.out _))))); refine wpQuiet_nil ?_; intro _ hw'; obtain ⟨nq, hw''⟩ := hw'; subst hw'')
  go_wp2_with fail
  go_ret
  exact ⟨rfl, ⟨_, rfl⟩⟩

set_option maxRecDepth 100000 in
theorem fn1_any {S2 : Nat → Prop} {w : World} {lo hp hb gb n n2 k c2 : Nat} {a2 : Option Addr} {l : List Api.DDep} {gs : List Nat} (hH : Hunter w lo hp l n) (hn : l.length = n) (c1 : w.cell? ⟨hb, 0, none⟩ = some (.pointer (some ⟨hp, 0, none⟩))) (c3 : w.cell? ⟨gb, 0, none⟩ = some (.slice a2 n2 c2)) (h2 : Arr S2 w a2 (gs.map Int.ofNat)) (hn2 : gs.length = n2) (hS2 : ∀ b, S2 b → b < w.heap.size)
    (hb1 : hb < w.heap.size) (hb3 : gb < w.heap.size) (hgs : ∀ g ∈ gs, g < n) (hk : k < n) (hn200 : n ≤ 200) :
    Calls Try.prog 117 #[.int .i64 (k : Nat), .pointer (some ⟨gb, 0, none⟩), .pointer (some ⟨hb, 0, none⟩)] w fun e w' => e = .returned (.bool (gs.any fun g => hangs l g k)) ∧ Below w.heap.size w w' := by
  have hW : Below w.heap.size w (w.alloc (.cells #[.int .i64 (k : Nat)] 3)) := (Below.refl _ _).alloc (Nat.le_refl _) _
  have hcz := (blk_new w [.int .i64 (k : Nat)] 3).cell0
  have hHz := hH.below hW
  have c1z := (hW.cell (p := ⟨hb, 0, none⟩) hb1).trans c1
  have c3z := (hW.cell (p := ⟨gb, 0, none⟩) hb3).trans c3
  have h2z := h2.keep (w' := w.alloc (.cells #[.int .i64 (k : Nat)] 3)) (fun b hb => hW.block b (hS2 b hb))
  have hC := containsFunc_any (c := c2) (p := fun y : Int => hangs l y.toNat k) (F := 119) (caps := #[.pointer (some ⟨hb, 0, none⟩), .pointer (some ⟨w.heap.size, 0, none⟩)]) mild_quiet h2z (fun b hb => Nat.lt_of_lt_of_le (hS2 b hb) hW.size) (fun y w => Try.call119 _ _) (fun y wx hy _ hq => by
    obtain ⟨g, hg, rfl⟩ := List.mem_map.1 hy
    exact fn2_any (hHz.below (hq.below _)) hn ((hq.cell _).trans c1z) ((hq.cell _).trans hcz) (hgs g hg) hk hn200)
  rw [List.length_map, hn2] at hC
  have hany : (gs.map Int.ofNat).any (fun y : Int => hangs l y.toNat k) = gs.any fun g => hangs l g k := by rw [List.any_map]; rfl
  rw [hany] at hC
  have HC := Lib.hid hC; have HW := Lib.hid hW
  clear hW hcz hHz c1z h2z hC hany h2 hH hn hn2
  go_enter Try.func117, Try.ntmps117
  go_wp2_with fail
  refine HC.out.mono ?_
  rintro e w3 ⟨rfl, hq⟩
  have HB := Lib.hid (HW.out.trans (hq.below _))
  clear hq
  go_wp2_with fail
  go_ret
  exact ⟨rfl, HB.out⟩

theorem below_cells_set {B : Nat} {w0 : World} {g : Nat} (hB : B ≤ g) : ∀ (vs : List Value) (o : Nat) (w : World), Below B w0 w → Below B w0 (w.setCells g o vs)
  | [], _, _, h => h
  | v :: r, o, w, h => below_cells_set hB r (o + 1) _ (h.setCell (p := ⟨g, o, none⟩) hB v)
theorem own_set_at {w : World} {B g n cap : Nat} {e : TypeId} {xs : List Int} (h : Own (fun _ => False) w B e (.slice (some ⟨g, 0, none⟩) n cap) xs) {k : Nat} {x y : Int} (hk : xs[k]? = some x) (hy : I64 y) : Own (fun _ => False) (w.setCell ⟨g, k, none⟩ (.int .i64 y)) B e (.slice (some ⟨g, 0, none⟩) n cap) (xs.set k y) := by
  obtain ⟨g2, cap2, hv, -, -, -, -, -, -, hs⟩ := num.own_int_at h rfl hk
  cases hv
  exact hs y hy
/-- The row while it is thinned: the first i cells are what is kept of the first j; from j on it stands. -/
structure Thin (p : Int → Bool) (xs ys : List Int) (i j : Nat) : Prop where
  len : ys.length = xs.length
  low : ys.take i = (xs.take j).filter (fun x => !p x)
  high : ys.drop j = xs.drop j
  lt : i < j
theorem Thin.at {p : Int → Bool} {xs ys : List Int} {i j : Nat} (h : Thin p xs ys i j) {x : Int} (hx : xs[j]? = some x) : ys[j]? = some x := by
  have := congrArg (fun l => l[0]?) h.high
  simp only [List.getElem?_drop, Nat.add_zero] at this
  rw [this, hx]
theorem Thin.drop {p : Int → Bool} {xs ys : List Int} {i j : Nat} (h : Thin p xs ys i j) {x : Int} (hx : xs[j]? = some x) (hp : p x = true) : Thin p xs ys i (j + 1) where
  len := h.len
  low := by rw [List.take_add_one, hx, List.filter_append, ← h.low]; simp [hp]
  high := by rw [← List.drop_drop, h.high, List.drop_drop]
  lt := by have := h.lt; omega
theorem Thin.keep {p : Int → Bool} {xs ys : List Int} {i j : Nat} (h : Thin p xs ys i j) {x : Int} (hx : xs[j]? = some x) (hp : p x = false) : Thin p xs (ys.set i x) (i + 1) (j + 1) where
  len := by rw [List.length_set]; exact h.len
  low := by
    have hj : j < xs.length := (List.getElem?_eq_some_iff.1 hx).1
    have hi : i < ys.length := by rw [h.len]; have := h.lt; omega
    rw [List.take_add_one, List.take_add_one, hx, List.filter_append, ← h.low, List.getElem?_set_self hi, List.take_set, List.set_eq_of_length_le (by rw [List.length_take]; omega)]
    simp [hp]
  high := by rw [List.drop_set_of_lt (by have := h.lt; omega), ← List.drop_drop, h.high, List.drop_drop]
  lt := by have := h.lt; omega
theorem filter_none {p : Int → Bool} {xs : List Int} (h : xs.any p = false) : xs.filter (fun x => !p x) = xs := by
  rw [List.filter_eq_self]
  intro x hx
  have := List.any_eq_false.1 h x hx
  simp at this
  simp [this]
theorem Thin.first {p : Int → Bool} {xs : List Int} (h : xs.any p = true) : Thin p xs xs (xs.findIdx p) (xs.findIdx p + 1) ∧ xs.findIdx p < xs.length := by
  have hlt : xs.findIdx p < xs.length := by
    rw [List.findIdx_lt_length]
    simpa using h
  refine ⟨⟨rfl, ?_, rfl, by omega⟩, hlt⟩
  have h1 := List.getElem?_eq_getElem hlt
  have h2 : p xs[xs.findIdx p] = true := List.findIdx_getElem (w := hlt)
  rw [List.take_add_one, h1, List.filter_append]
  have h3 : (xs.take (xs.findIdx p)).filter (fun x => !p x) = xs.take (xs.findIdx p) := filter_none (List.any_eq_false.2 fun x hx => by
    obtain ⟨k, hk⟩ := List.getElem?_of_mem hx
    rw [List.getElem?_take] at hk
    split at hk
    · rename_i hkl
      obtain ⟨hk1, rfl⟩ := List.getElem?_eq_some_iff.1 hk
      have := List.not_of_lt_findIdx hkl
      simpa using this
    · cases hk)
  rw [h3]
  simp [h2]
def delRel (w0 : World) (B0 : Nat) (g n c : Nat) (p : Int → Bool) (xs : List Int) (i j : Value) (w' : World) : Prop :=
  ∃ (a b : Nat) (ys : List Int), b ≤ n ∧ i = .int .i64 a ∧ j = .int .i64 b ∧ Thin p xs ys a b ∧ Own (fun _ => False) w' B0 3 (.slice (some ⟨g, 0, none⟩) n c) ys ∧ Below B0 w0 w'

set_option maxRecDepth 100000 in
set_option maxHeartbeats 1000000 in
theorem deleteFunc_any {w0 w : World} {B0 n c : Nat} {a : Option Addr} {xs : List Int} {F : FuncId} {caps : Array Value} {p : Int → Bool} (hB : Below B0 w0 w) (hown : Own (fun _ => False) w B0 3 (.slice a n c) xs) (hn : xs.length = n) (hn2 : n ≤ 1000000) (hBw : B0 ≤ w.heap.size)
    (hF : ∀ (y : Int) (w : World), (callFunc F (#[.int .i64 y] ++ caps)).run Try.prog w = .ok (.enter F (#[.int .i64 y] ++ caps)) w)
    (hp : ∀ (y : Int) (wx : World), y ∈ xs → I64 y → Below B0 w0 wx → Calls Try.prog F (#[.int .i64 y] ++ caps) wx fun e w' => e = .returned (.bool (p y)) ∧ Below wx.heap.size wx w') :
    Calls Try.prog 116 #[.slice a n c, .func (.func F) #[] caps] w fun e w' => ∃ a' n' c', e = .returned (.slice a' n' c') ∧ Own (fun _ => False) w' B0 3 (.slice a' n' c') (xs.filter fun x => !p x) ∧ Below B0 w0 w' := by
  have harr := (num.arr_of_own hown).1
  have hI := indexFunc_any mild_grow (c := c) harr (fun b hb => hb.elim False.elim (fun h => h.2)) hF (fun y wx hy hi hg => hp y wx hy hi (hB.trans (Below.mono hg hBw)))
  rw [hn] at hI
  have HI := Lib.hid hI; have HN := Lib.hid hn; have HP := Lib.hid hp; have HO := Lib.hid hown; have HB := Lib.hid hB
  clear hI hp hown harr hB
  cases hany : xs.any p with
  | false =>
    have hfr : findRes p xs = -1 := by unfold findRes; rw [hany]; simp
    rw [hfr] at HI
    have HFN := Lib.hid (filter_none hany)
    clear hfr hany hn
    go_enter Try.func116, Try.ntmps116
    go_wp2_with fail
    refine HI.out.mono ?_
    rintro e w1 ⟨rfl, hg⟩
    have HB1 := Lib.hid (HB.out.trans (Below.mono hg hBw)); have HO1 := Lib.hid (HO.out.below hg (fun _ h => h.elim))
    clear hg
    go_wp2_with fail
    go_ret
    exact ⟨_, _, _, rfl, by rw [HFN.out]; exact HO1.out, HB1.out⟩
  | true =>
    obtain ⟨hthin, hil⟩ := Thin.first hany
    have hfr : findRes p xs = (xs.findIdx p : Int) := by unfold findRes; rw [hany]; simp
    rw [hfr] at HI
    obtain ⟨i0, hi0⟩ : ∃ i, xs.findIdx p = i := ⟨_, rfl⟩
    rw [hi0] at HI hthin hil
    rw [hn] at hil
    have HTH := Lib.hid hthin
    clear hfr hany hn hi0 hthin
    obtain ⟨g, cap, hv, hBg, -, -, -, -, -, -⟩ := num.own_int_at HO.out HN.out (k := i0) (List.getElem?_eq_getElem (by rw [HN.out]; exact hil))
    cases hv
    go_enter Try.func116, Try.ntmps116
    go_wp2_with fail
    refine HI.out.mono ?_
    rintro e w1 ⟨rfl, hg⟩
    have HB1 := Lib.hid (HB.out.trans (Below.mono hg hBw)); have HO1 := Lib.hid (HO.out.below hg (fun _ h => h.elim))
    have hd1 : ((i0 : Int) == -1) = false := by rw [beq_eq_false_iff_ne]; omega
    clear hg
    go_wp2_with fail
    go_loopw [5, 6] (delRel w0 B0 g n c p xs) (fun _ j _ => n - (intOf j).toNat)
    case atStart => exact ⟨i0, i0 + 1, xs, by omega, rfl, by go_num, HTH.out, HO1.out, HB1.out⟩
    case round =>
      obtain ⟨i, j, ys, hj, rfl, rfl, hth, ho, hb⟩ := hrel
      have HT := Lib.hid hth; have HOY := Lib.hid ho; have HBY := Lib.hid hb
      have hij := hth.lt
      have HYL : Hid (ys.length = n) := hth.len.trans HN.out
      clear hth hb
      by_cases hjn : j < n
      · obtain ⟨x, hx⟩ := norm.get_lt HN.out hjn
        obtain ⟨g2, cap2, hv, -, -, -, q1, -, hxi, -⟩ := num.own_int_at ho HYL.out (HT.out.at hx)
        cases hv
        have HX := Lib.hid hx
        clear ho hx
        go_wp2_with fail
        refine (HP.out x wr (List.mem_of_getElem? HX.out) hxi HBY.out).mono ?_
        rintro e w2 ⟨rfl, hb2⟩
        have HB2 := Lib.hid (HBY.out.trans (Below.mono hb2 (Nat.le_trans hBg (Nat.le_of_lt (HOY.out.lt g rfl).2))))
        have HO2 := Lib.hid (HOY.out.below hb2 (fun _ h => h.elim))
        clear hb2
        cases hpx : p x with
        | true =>
          have HPX := Lib.hid hpx
          clear hpx
          go_wp2_with fail
          go_roundw
          case rel => exact ⟨i, j + 1, ys, by omega, rfl, by go_num, HT.out.drop HX.out HPX.out, HO2.out, HB2.out⟩
          case measure => simp [intOf]; omega
        | false =>
          have HPX := Lib.hid hpx
          obtain ⟨z, hz⟩ := norm.get_lt HYL.out (Nat.lt_trans hij hjn)
          obtain ⟨g3, cap3, hv3, -, -, -, q3, f3, -, -⟩ := num.own_int_at HO2.out HYL.out hz
          cases hv3
          have HO3 := Lib.hid (own_set_at HO2.out hz hxi)
          clear hpx hz
          go_wp2_with fail
          go_roundw
          case rel => exact ⟨i + 1, j + 1, _, by omega, by go_num, by go_num, HT.out.keep HX.out HPX.out, HO3.out, HB2.out.setCell (p := ⟨g, i, none⟩) hBg _⟩
          case measure => simp [intOf]; omega
      · obtain rfl : j = n := by omega
        have HFL : Hid (ys.take i = xs.filter fun x => !p x) := by
          show _ = _
          rw [HT.out.low, ← HN.out, List.take_length]
        rcases own_cells ho with ⟨hv, -⟩ | ⟨g2, c2, cs, hv, -, hblk, hcl, hnc, hcm, htk⟩
        · cases hv
        · rw [HYL.out] at hv hnc htk
          injection hv with h1 h2 h3
          injection h1 with h1
          injection h1 with h1
          subst h1 h3
          clear h2
          have hzl : (List.replicate (j - i) (Value.int .i64 0)).length = j - i := by simp
          have hclr : ∀ ty, (Builtin.clear_ #[30] ty #[.slice (some ⟨g, i, none⟩) (j - i) (c - i)]).run Try.prog wr = .ok (.tuple #[]) (wr.setCells g i (List.replicate (j - i) (.int .i64 0))) :=
            fun ty => Lib.run_clear_slice wr _ _ ty _ Try.underlying30 Try.zeroValue3 rfl rfl g i _ _ (by omega) (fun t ht => by rw [hblk.cell (List.getElem?_eq_getElem (by omega : i + t < cs.length))]; rfl) (fun t ht => hblk.frozen _)
          have HBL := Lib.hid (Blk.setCells (List.replicate (j - i) (.int .i64 0)) i wr cs hblk (by rw [hzl]; omega))
          have HOF : Hid (Own (fun _ => False) (wr.setCells g i (List.replicate (j - i) (.int .i64 0))) B0 3 (.slice (some ⟨g, 0, none⟩) i c) (xs.filter fun x => !p x)) := by
            have hfl : (xs.filter fun x => !p x).length = i := by rw [← HFL.out, List.length_take, HYL.out]; omega
            refine own_of_cells hBg HBL.out ?_ (by omega) hcm hfl ?_ (fun z hz => own_i64 ho z (List.mem_of_mem_take (by rw [HFL.out]; exact hz)))
            · unfold splice
              simp
              omega
            · have h1 : (splice cs i (List.replicate (j - i) (Value.int .i64 0))).take i = cs.take i := by
                unfold splice
                rw [List.take_append_of_le_length (by simp; omega), List.take_take, Nat.min_self]
              rw [h1, ← HFL.out, intsV_take, ← htk, List.take_take, Nat.min_eq_left (by omega)]
          have HBF := Lib.hid (below_cells_set hBg (List.replicate (j - i) (.int .i64 0)) i wr HBY.out)
          have hci : ¬ (c = i) := by omega
          have hic : (i : Int) ≤ (c : Int) := by omega
          clear ho hblk hcl htk hnc hzl
          go_wp2_with fail
          go_ret
          exact ⟨_, _, _, rfl, HOF.out, HBF.out⟩

theorem susL_filter (l : List Api.DDep) (b : Nat) (gs : List Nat) : (backL l b).filter (fun x => !(gs.any fun g => hangs l g x.toNat)) = susL l b gs := by
  unfold backL susL
  rw [filt_filter]
  refine filt_congr fun k _ => ?_
  unfold sus
  rw [Int.toNat_natCast, List.not_any_eq_all_not]
theorem backL_mem {l : List Api.DDep} {i : Nat} {x : Int} (h : x ∈ backL l i) : ∃ k : Nat, x = k ∧ k < l.length := by
  obtain ⟨k, h1, h2, -⟩ := filt_mem.1 h
  exact ⟨k, h1, h2⟩
def SusPost (w : World) (xs : List Int) (e : Ending) (w' : World) : Prop :=
  ∃ a n c, e = .returned (.slice a n c) ∧ Own (fun _ => False) w' w.heap.size 3 (.slice a n c) xs ∧ Below w.heap.size w w'

set_option maxRecDepth 100000 in
set_option maxHeartbeats 1000000 in
theorem suspects_any {S2 : Nat → Prop} {w : World} {lo hp n n2 c2 bd : Nat} {a2 : Option Addr} {l : List Api.DDep} {gs : List Nat} (hH : Hunter w lo hp l n) (hn : l.length = n) (h2 : Arr S2 w a2 (gs.map Int.ofNat)) (hn2 : gs.length = n2) (hS2 : ∀ b, S2 b → b < w.heap.size)
    (hbd : bd < n) (hgs : ∀ g ∈ gs, g < n) (hn200 : n ≤ 200) :
    Calls Try.prog 83 #[.pointer (some ⟨hp, 0, none⟩), .int .i64 (bd : Nat), .slice a2 n2 c2] w (SusPost w (susL l bd gs)) := by
  have hW1 : Below w.heap.size w (w.alloc (.cells #[.pointer (some ⟨hp, 0, none⟩)] 126)) := (Below.refl _ _).alloc (Nat.le_refl _) _
  have hW2 := hW1.alloc hW1.size (.cells #[.slice a2 n2 c2] 30)
  have hc1 := (blk_new w [.pointer (some ⟨hp, 0, none⟩)] 126).cell0
  have hb1 := (blk_new w [.pointer (some ⟨hp, 0, none⟩)] 126).lt
  have hc3 := (blk_new (w.alloc (.cells #[.pointer (some ⟨hp, 0, none⟩)] 126)) [.slice a2 n2 c2] 30).cell0
  have hb3 := (blk_new (w.alloc (.cells #[.pointer (some ⟨hp, 0, none⟩)] 126)) [.slice a2 n2 c2] 30).lt
  have hs1 : (w.alloc (.cells #[.pointer (some ⟨hp, 0, none⟩)] 126)).heap.size = w.heap.size + 1 := by simp
  rw [hs1] at hc3 hb3
  have hc1' : ((w.alloc (.cells #[.pointer (some ⟨hp, 0, none⟩)] 126)).alloc (.cells #[.slice a2 n2 c2] 30)).cell? ⟨w.heap.size, 0, none⟩ = some (.pointer (some ⟨hp, 0, none⟩)) :=
    (((Below.refl _ _).alloc (Nat.le_refl _) _).cell (p := ⟨w.heap.size, 0, none⟩) (by show w.heap.size < _; rw [hs1]; omega)).trans hc1
  have hHz := hH.below hW2
  have h2z := h2.keep (w' := (w.alloc (.cells #[.pointer (some ⟨hp, 0, none⟩)] 126)).alloc (.cells #[.slice a2 n2 c2] 30)) (fun b hb => hW2.block b (hS2 b hb))
  have hsz : w.heap.size + 2 ≤ ((w.alloc (.cells #[.pointer (some ⟨hp, 0, none⟩)] 126)).alloc (.cells #[.slice a2 n2 c2] 30)).heap.size := by simp
  obtain ⟨wz, hwz⟩ : ∃ wz, (w.alloc (.cells #[.pointer (some ⟨hp, 0, none⟩)] 126)).alloc (.cells #[.slice a2 n2 c2] 30) = wz := ⟨_, rfl⟩
  rw [hwz] at hW2 hc1' hc3 hHz h2z hsz hb3
  obtain ⟨b, off, cB, a', c', q1, q2, hc', hn', ha, hpl, hbl⟩ := hunter_row hHz hbd
  obtain ⟨m, hm⟩ : ∃ m, (backL l bd).length = m := ⟨_, rfl⟩
  rw [hm] at q2 hc'
  have hm200 : m ≤ 200 := by rw [← hm]; have := filt_len (fun k => hangs l bd k) l.length; unfold backL; omega
  have HCL := Lib.hid (cloneI_any (n := m) (c := c') hm ha hn' (fun b hb => hb.2) (by omega))
  have HDL : Hid (∀ (w1 : World) (v1 : Value), Own (fun _ => False) w1 wz.heap.size 3 v1 (backL l bd) → Below wz.heap.size wz w1 → ∃ a1 c1, v1 = .slice a1 m c1 ∧
      Calls Try.prog 116 #[.slice a1 m c1, .func (.func 117) #[] #[.pointer (some ⟨w.heap.size + 1, 0, none⟩), .pointer (some ⟨w.heap.size, 0, none⟩)]] w1 fun e w' => ∃ a' n' c', e = .returned (.slice a' n' c') ∧ Own (fun _ => False) w' wz.heap.size 3 (.slice a' n' c') (susL l bd gs) ∧ Below wz.heap.size wz w') := by
    intro w1 v1 hown hbw
    obtain ⟨a1, c1, rfl, -, -, -⟩ := num.own_len hown hm
    refine ⟨a1, c1, rfl, ?_⟩
    have := deleteFunc_any (w0 := wz) (p := fun x : Int => gs.any fun g => hangs l g x.toNat) (F := 117) (caps := #[.pointer (some ⟨w.heap.size + 1, 0, none⟩), .pointer (some ⟨w.heap.size, 0, none⟩)]) hbw hown hm (by omega) hbw.size (fun y w => Try.call117 _ _) (fun y wx hy _ hbx => by
      obtain ⟨k, rfl, hk⟩ := backL_mem hy
      have := fn1_any (lo := lo) (hp := hp) (hb := w.heap.size) (gb := w.heap.size + 1) (k := k) (c2 := c2) (hHz.below hbx) hn ((hbx.cell (p := ⟨w.heap.size, 0, none⟩) (by show w.heap.size < _; omega)).trans hc1') ((hbx.cell (p := ⟨w.heap.size + 1, 0, none⟩) (by show w.heap.size + 1 < _; omega)).trans hc3) (h2z.keep (fun b hb => hbx.block b (Nat.lt_of_lt_of_le (hS2 b hb) (by omega)))) hn2 (fun b hb => Nat.lt_of_lt_of_le (hS2 b hb) (by have := hbx.size; omega)) (by have := hbx.size; omega) (by have := hbx.size; omega) hgs (by rw [← hn]; exact hk) hn200
      simpa using this)
    rw [susL_filter] at this
    exact this
  have HW2 := Lib.hid hW2
  clear ha hHz h2z hH h2 hn' hc' hm hn hW1 hc1 hb1 hb3 hs1 hc3 hgs hS2
  go_enter Try.func83, Try.ntmps83
  go_wp2_with fail
  refine HCL.out.mono ?_
  rintro e w1 ⟨v1, rfl, hown, hb1⟩
  obtain ⟨a1, c1, rfl, hdel⟩ := HDL.out w1 v1 hown hb1
  have HDEL := Lib.hid hdel
  clear hown hb1 hdel
  go_wp2_with fail
  refine HDEL.out.mono ?_
  rintro e w3 ⟨a3, n3, c3, rfl, ho3, hb3⟩
  have HO3 := Lib.hid (Own.base ho3 HW2.out.size); have HB3 := Lib.hid (HW2.out.trans (hb3.mono HW2.out.size))
  clear ho3 hb3
  go_wp2_with fail
  go_ret
  exact ⟨_, _, _, rfl, HO3.out, HB3.out⟩
end Go.Proofs.Ytfdpannanpipdaa.hunt
