/- ClocksTell: the vectors of a recording, walked. -/
import Derived.Test.YtffebdngmbbcoaaTellPlain
import Derived.Test.YtffebdngmbbcoaaClkLaw
import Derived.Test.YtffebdngmbbcoaaMat
import Derived.Test.YtffebdngmbbcoaaMax
set_option linter.unusedVariables false
set_option linter.unusedSimpArgs false
namespace Go.Proofs.Ytffebdngmbbcoaa.clk
open Go.Bk Go.RowKit Go.Maps Go.Proofs.Ytffebdngmbbcoaa.lock

theorem cnt_le (l : List Api.Event) (j : Nat) (t : Int) : cnt l j t ≤ j + 1 := cntP_le _ _
theorem mx_le2 (l : List Api.Event) (j : Nat) (t : Int) {i : Nat} (h : i ≤ j) : mx l j t i ≤ j := Nat.le_trans (mx_le h) (cntP_le _ _)
theorem refTo_past {l : List Api.Event} {m : Nat} (hm : m ≤ l.length) {j : Nat} {x : Api.DPair} (hx : (refTo l m)[(refTo l (j + 1)).length]? = some x) (hj : j + 1 ≤ m) : x.J ≠ (j : Int) := by
  obtain ⟨r, hr⟩ := refTo_mono l hj
  rw [hr, List.getElem?_append_right (Nat.le_refl _), Nat.sub_self] at hx
  intro he
  have hp := refTo_rising l m
  have hmem : x ∈ refTo l m := by rw [hr]; exact List.mem_append_right _ (List.mem_of_getElem? hx)
  obtain ⟨i, j', hj', rfl, hE⟩ := mem_refTo.1 hmem
  have he : (j' : Int) = (j : Int) := he
  have hjj : j' = j := by omega
  subst hjj
  have h2 : (⟨(i : Int), (j' : Int)⟩ : Api.DPair) ∈ refTo l (j' + 1) := mem_refTo.2 ⟨i, j', by omega, rfl, hE⟩
  rw [hr, List.pairwise_append] at hp
  have := hp.2.2 _ h2 _ (List.mem_of_getElem? hx)
  unfold ltJ at this
  omega
theorem rowTo_len (l : List Api.Event) (j : Nat) : ∀ k, (rowTo l j k).length ≤ k
  | 0 => by simp [rowTo]
  | k + 1 => by
    have := rowTo_len l j k
    rw [rowTo, List.length_append]; split <;> simp <;> omega
theorem refTo_len (l : List Api.Event) (m : Nat) : ∀ k, k ≤ m → (refTo l k).length ≤ k * m
  | 0, _ => by simp [refTo]
  | k + 1, h => by
    have h1 := rowTo_len l k k
    have h2 := refTo_len l m k (by omega)
    rw [refTo, List.length_append, Nat.add_mul]
    omega
theorem refTo_small {l : List Api.Event} {k : Nat} (h : k ≤ 200) : (refTo l k).length ≤ 40000 := by
  have h1 := refTo_len l k k (Nat.le_refl _)
  have h2 : k * k ≤ 200 * 200 := Nat.mul_le_mul h h
  omega
def VecPost (w : World) (l : List Api.Event) (n m : Nat) (e : Ending) (w' : World) : Prop :=
  ∃ (g : Nat) (rb : Nat → Nat), e = .returned (.slice (some ⟨g, 0, none⟩) n n) ∧ Mat w' w.heap.size w'.heap.size g 28 3 n m n rb (fun k t => (cnt l k t : Nat)) ∧ Below w.heap.size w w'
def mkRel (w : World) (n m : Nat) (v17 : Value) (w' : World) : Prop :=
  ∃ (k : Nat) (rb : Nat → Nat), k ≤ n ∧ v17 = .int .i64 k ∧ Mat w' w.heap.size w'.heap.size w.heap.size 28 3 n m k rb (fun _ _ => 0) ∧ Below w.heap.size w w'
/-- The table when the rows before j are done, and of row j all edges from before i. -/
def vecF (l : List Api.Event) (j i : Nat) (k t : Nat) : Int := if k < j then (cnt l k t : Nat) else if k = j then (mx l j t i : Nat) else 0
structure Rest (w : World) (w1 w2 : World) (l : List Api.Event) (n p : Nat) (v : Value) : Prop where
  form : ∃ a c, v = .slice a ((refTo l n).length - p) c ∧ (refTo l n).length - p ≤ c ∧ (a = none → c = 0) ∧ c ≤ maxLen ∧ Arr (fun b => w1.heap.size ≤ b ∧ b < w2.heap.size) w a ((refTo l n).drop p)
theorem Rest.keep {w w' w1 w2 : World} {l : List Api.Event} {n p : Nat} {v : Value} (h : Rest w w1 w2 l n p v) (hk : ∀ b, w1.heap.size ≤ b → b < w2.heap.size → w'.heap[b]? = w.heap[b]?) : Rest w' w1 w2 l n p v := by
  obtain ⟨a, c, h1, h2, h3, h4, h5⟩ := h.form
  exact ⟨a, c, h1, h2, h3, h4, h5.keep fun b hb => hk b hb.1 hb.2⟩
def jRel (w w1 w2 : World) (l : List Api.Event) (n m : Nat) (rb : Nat → Nat) (v7 v30 : Value) (w' : World) : Prop :=
  ∃ j : Nat, j ≤ n ∧ v30 = .int .i64 j ∧ Rest w' w1 w2 l n (refTo l j).length v7 ∧ Mat w' w.heap.size w1.heap.size w.heap.size 28 3 n m n rb (vecF l j 0) ∧ Below w.heap.size w w' ∧ w2.heap.size ≤ w'.heap.size
def sliceLen : Value → Nat
  | .slice _ n _ => n
  | _ => 0
def kRel (w w1 w2 : World) (l : List Api.Event) (n m j gB : Nat) (x : Api.Event) (rb : Nat → Nat) (v7 : Value) (w' : World) : Prop :=
  ∃ i : Nat, i ≤ j ∧ Rest w' w1 w2 l n ((refTo l j).length + (rowTo l j i).length) v7 ∧ Mat w' w.heap.size w1.heap.size w.heap.size 28 3 n m n rb (vecF l j i) ∧ Below w.heap.size w w' ∧ w2.heap.size ≤ w'.heap.size ∧ Blk w' gB 70 (evC x)
/-- The table while row k is taken into row j, up to thread u. -/
def takeF (l : List Api.Event) (j k u : Nat) (q t : Nat) : Int := if q = j ∧ t < u then (max (mx l j t k) (cnt l k t) : Nat) else vecF l j k q t
def uRel (w w1 w2 : World) (l : List Api.Event) (n m j k p gB : Nat) (x : Api.Event) (rb : Nat → Nat) (v7 v54 : Value) (w' : World) : Prop :=
  ∃ u : Nat, u ≤ m ∧ v54 = .int .i64 u ∧ Rest w' w1 w2 l n p v7 ∧ Mat w' w.heap.size w1.heap.size w.heap.size 28 3 n m n rb (takeF l j k u) ∧ Below w.heap.size w w' ∧ w2.heap.size ≤ w'.heap.size ∧ Blk w' gB 70 (evC x)
set_option maxRecDepth 100000 in
set_option maxHeartbeats 4000000 in
theorem clocks_any {S : Nat → Prop} {w : World} {a : Option Addr} {c n m : Nat} {l : List Api.Event} (hn : l.length = n) (h : Arr S w a l) (hS : ∀ b, S b → b < w.heap.size) (hl : n ≤ 200) (hm : m ≤ 8) (hth : ∀ (j : Nat) (e : Api.Event), l[j]? = some e → 0 ≤ e.Thread ∧ e.Thread < m) :
    Calls Try.prog 40 #[.slice a n c, .int .i64 (m : Nat)] w (VecPost w l n m) := by
  have HN := Lib.hid hn
  have HA : Hid (∀ w', Below w.heap.size w w' → Arr S w' a l) := fun w' hb => h.keep (fun b hb' => hb.block b (hS b hb'))
  clear hn h
  go_enter Try.func40, Try.ntmps40
  go_wp2_with (with_reducible refine wp_make rfl rfl Try.underlying60 Try.info28 rfl rfl rfl (by omega) (by unfold maxLen; omega) fun w1 hblk hbel hsz => ?_)
  have HM0 : Hid (Mat w1 w.heap.size w1.heap.size w.heap.size 28 3 n m 0 (fun _ => 0) (fun _ _ => 0)) := Mat.start hblk (by simp) (Nat.le_refl _) hsz _ _
  have HB0 := Lib.hid hbel
  clear hblk hbel hsz
  go_loopw [17] (mkRel w n m) (fun i _ => n - (intOf i).toNat)
  case atStart => exact ⟨0, _, Nat.zero_le _, rfl, HM0.out, HB0.out⟩
  case round =>
    clear HM0 HB0
    obtain ⟨k, rb, hk, rfl, hmat, hb⟩ := hrel
    have HM := Lib.hid hmat; have HB := Lib.hid hb
    have hbs := hb.size
    have hgs := hmat.high.1
    clear hmat hb
    by_cases hlt : k < n
    · obtain ⟨wk, hwk⟩ : ∃ wk : World, wk = wr := ⟨_, rfl⟩
      rw [← hwk] at HM HB hbs hgs ⊢
      clear hwk
      go_wp2_with (first
        | (with_reducible refine wp_make rfl rfl Try.underlying28 Try.info3 rfl rfl rfl (by omega) (by unfold maxLen; omega) fun w3 hblk hbel hsz => ?_
           have HK3 := Lib.hid hblk; have HB3 := Lib.hid hbel
           obtain ⟨u0, hc0⟩ := (HM.out.below hbel (Nat.le_refl _)).slot hlt
           have hf0 := (HM.out.below hbel (Nat.le_refl _)).slotF k
           clear hblk hbel))
      go_roundw
      case rel =>
        refine ⟨k + 1, (fun j => if j = k then wk.heap.size else rb j), by omega, by go_num, ?_, (HB.out.trans (HB3.out.mono hbs)).setCell (p := ⟨w.heap.size, k, none⟩) (Nat.le_refl _) _⟩
        exact HM.out.add hlt (Nat.le_refl _) (by rw [size_setCell]; exact hsz) HB3.out (by rw [← rowV_zero]; exact HK3.out)
      case measure => simp [intOf]; omega
    · obtain rfl : k = n := by omega
      obtain ⟨wk, hwk⟩ : ∃ wk : World, wk = wr := ⟨_, rfl⟩
      rw [← hwk] at HM HB hbs hgs ⊢
      clear hwk
      have HED := Lib.hid (edges_any (c := c) HN.out (HA.out _ HB.out) (fun b hb => by have := hS b hb; omega) hl)
      go_wp2_with fail
      refine HED.out.mono ?_
      rintro e w2 ⟨v, rfl, ho, hb⟩
      have HB2 := Lib.hid hb
      obtain ⟨a7, c7, rfl, hc7, hn7, hm7, ha7⟩ := ho.arrC
      have HR0 : Hid (Rest w2 wk w2 l k (refTo l 0).length (.slice a7 (refTo l k).length c7)) := by
        refine ⟨a7, c7, rfl, by have : (refTo l 0).length = 0 := rfl; omega, hn7, hm7, ?_⟩
        exact ha7.mono fun b hb => hb.resolve_left id
      have HBW := Lib.hid (HB.out.trans (hb.mono hbs))
      have HM2 : Hid (Mat w2 w.heap.size wk.heap.size w.heap.size 28 3 k m k rb (vecF l 0 0)) := (HM.out.below hb (Nat.le_refl _)).congr fun j t hj ht => by
        unfold vecF
        rw [if_neg (by omega)]
        split <;> rfl
      clear hb ho ha7 HED HM
      go_wp2_with fail
      go_loopw [7, 30] (jRel w wk w2 l k m rb) (fun _ i _ => k - (intOf i).toNat)
      case atStart => exact ⟨0, Nat.zero_le _, rfl, HR0.out, HM2.out, HBW.out, Nat.le_refl _⟩
      case round =>
        clear HR0 HM2 HBW
        obtain ⟨j, hj, rfl, hrest, hmat, hb, hw2⟩ := hrel
        have HRE := Lib.hid hrest; have HM := Lib.hid hmat; have HBJ := Lib.hid hb
        have hbs2 := hb.size
        clear hrest hmat hb
        obtain ⟨wj, hwj⟩ : ∃ wj : World, wj = wr := ⟨_, rfl⟩
        rw [← hwj] at HRE HM HBJ hbs2 hw2 ⊢
        clear hwj
        obtain ⟨a6, d6, rfl, hd6, hn6, hc6, ha6⟩ := HRE.out.form
        clear hd6 hn6 hc6 ha6
        by_cases hlt : j < k
        · obtain ⟨x, hx⟩ : ∃ x, l[j]? = some x := ⟨_, List.getElem?_eq_getElem (by have := HN.out; omega)⟩
          obtain ⟨b1, o1, rfl, -, q0, q1, q2, q3, q4, q5, q6, q7, q8, q9, q10, q11, -⟩ := api_Event_elem (HA.out _ HBJ.out) hx
          have HX := Lib.hid hx
          have htx := hth j x hx
          have HBX : Hid (Blk (wj.alloc (.cells (evC x).toArray 70)) wj.heap.size 70 (evC x)) := blk_new wj (evC x) 70
          have HBJ2 : Hid (Below w.heap.size w (wj.alloc (.cells (evC x).toArray 70))) := HBJ.out.alloc hbs2 _
          have HRE2 : Hid (Rest (wj.alloc (.cells (evC x).toArray 70)) wk w2 l k (refTo l j).length (.slice a6 ((refTo l k).length - (refTo l j).length) d6)) := HRE.out.keep fun b h1 h2 => Below.heap_alloc _ _ _ (by omega)
          have HM3 : Hid (Mat (wj.alloc (.cells (evC x).toArray 70)) w.heap.size wk.heap.size w.heap.size 28 3 k m k rb (vecF l j 0)) := HM.out.keep fun b h1 h2 => Below.heap_alloc _ _ _ (by have := HB2.out.size; omega)
          clear hx
          go_wp2_with fail
          go_loopw [7] (kRel w wk w2 l k m j wj.heap.size x rb) (fun v _ => sliceLen v)
          case atStart => exact ⟨0, Nat.zero_le _, HRE2.out, HM3.out, HBJ2.out, by simp; omega, HBX.out⟩
          case round =>
            clear HRE HM HBJ HBX HBJ2 HRE2 HM3
            obtain ⟨i0, hi0, hrest, hmat0, hb, hw3, hbx⟩ := hrel
            obtain ⟨gB, hgB⟩ : ∃ gB, gB = wj.heap.size := ⟨_, rfl⟩
            rw [← hgB] at hbx ⊢
            obtain ⟨i, hii, hij, hskip, hedge⟩ := next_edge l j (j - i0) i0 (by omega)
            rw [← rowTo_skip hii hskip] at hrest
            have hmat : Mat wr w.heap.size wk.heap.size w.heap.size 28 3 k m k rb (vecF l j i) := hmat0.congr fun q t _ _ => by
              unfold vecF
              rw [mx_skip hii hskip]
            obtain ⟨P, hP⟩ : ∃ P, P = (refTo l j).length + (rowTo l j i).length := ⟨_, rfl⟩
            rw [← hP] at hrest
            clear hmat0 hskip hii hi0 i0 q0 q1 q2 q3 q4 q5 q6 q7 q8 q9 q10 q11
            have HRE := Lib.hid hrest; have HM := Lib.hid hmat; have HB3 := Lib.hid hb; have HBX := Lib.hid hbx
            have hbs3 := hb.size
            have hgB2 : w2.heap.size ≤ gB := by omega
            have hgB3 := hbx.lt
            have x2 := hbx.cell (j := 2) rfl
            clear hrest hmat hb hbx
            obtain ⟨wi, hwi⟩ : ∃ wi : World, wi = wr := ⟨_, rfl⟩
            rw [← hwi] at HRE HM HB3 HBX hbs3 hgB3 x2 hw3 ⊢
            clear hwi
            obtain ⟨a7, d7, rfl, hd7, hn7, hc7, ha7⟩ := HRE.out.form
            obtain ⟨D, hD⟩ : ∃ D, D = (refTo l k).length - P := ⟨_, rfl⟩
            rw [← hD] at hd7 ⊢
            have hDs : D ≤ 40000 := by have := refTo_small (l := l) hl; omega
            have HP := Lib.hid hP; have HD := Lib.hid hD
            have hgx : gB ≠ w.heap.size ∧ ∀ q, q < k → rb q ≠ gB := ⟨by have := HB2.out.size; omega, fun q hq => by have := HM.out.high.2 q hq; have := HB2.out.size; omega⟩
            have HFST : Hid (∀ x0 : Api.DPair, (refTo l k)[P]? = some x0 → ∃ b5 o5 : Nat, a7 = some ⟨b5, o5, none⟩ ∧ wi.cell? ⟨b5, o5, none⟩ = some (.int .i64 x0.I) ∧ wi.cell? ⟨b5, o5 + 1, none⟩ = some (.int .i64 x0.J)) := by
              intro x0 hx0
              obtain ⟨b5, o5, e5, -, p1, p2, -⟩ := api_DPair_elem ha7 (k := 0) (x := x0) (by rw [List.getElem?_drop]; exact hx0)
              exact ⟨b5, o5, e5, by simpa using p1, by simpa using p2⟩
            clear hP hD hgB ha7
            by_cases hed : edgeB l i j = true
            · have hijl := edgeB_lt hed
              have hE := refTo_at hijl hlt hed
              rw [← HP.out] at hE
              have hD1 : 0 < D := by
                have := (List.getElem?_eq_some_iff.1 hE).1
                have := HD.out
                omega
              obtain ⟨b5, o5, rfl, p1, p2⟩ := HFST.out _ hE
              dsimp only at p1 p2
              have HED2 := Lib.hid hed; have HE := Lib.hid hE
              have hik : i < k := by omega
              have hh1 := HM.out.head (k := i) hik
              have hh2 := HM.out.head (k := j) hlt
              have HM0 : Hid (Mat wi w.heap.size wk.heap.size w.heap.size 28 3 k m k rb (takeF l j i 0)) := HM.out.congr fun q t _ _ => by unfold takeF; rw [if_neg (by omega)]
              have hD0 : decide (0 < (D : Int)) = true := by simp; omega
              clear hedge hed hE
              go_wp2_with fail
              go_loopw [54] (uRel w wk w2 l k m j i P gB x rb (.slice (some ⟨b5, o5, none⟩) D d7)) (fun i _ => m - (intOf i).toNat)
              case atStart => exact ⟨0, Nat.zero_le _, rfl, HD.out ▸ HRE.out, HM0.out, HB3.out, hw3, HBX.out⟩
              case round =>
                clear HM0 HBX HB3 HRE HM hh1 hh2 x2 hw3 HFST p1 p2
                obtain ⟨u, hu, rfl, hrest, hmat, hb, hw3, hbx⟩ := hrel
                have HRE := Lib.hid hrest; have HM := Lib.hid hmat; have HB4 := Lib.hid hb; have HBX := Lib.hid hbx
                have hbs4 := hb.size
                clear hrest hmat hb hbx
                by_cases hum : u < m
                · have hh2 := HM.out.head (k := j) hlt
                  have cj := HM.out.cell (k := j) hlt hum
                  have ck := HM.out.cell (k := i) hik hum
                  have hfr := HM.out.frozen (k := j) hlt u
                  rw [show takeF l j i u j u = ((mx l j u i : Nat) : Int) by unfold takeF vecF; rw [if_neg (by omega), if_neg (by omega), if_pos rfl]] at cj
                  rw [show takeF l j i u i u = ((cnt l i u : Nat) : Int) by unfold takeF vecF; rw [if_neg (by omega), if_pos hijl]] at ck
                  obtain ⟨A, hA⟩ : ∃ A, A = mx l j u i := ⟨_, rfl⟩
                  obtain ⟨C, hC⟩ : ∃ C, C = cnt l i u := ⟨_, rfl⟩
                  have HMX : Hid (max (A : Int) (C : Int) = ((max A C : Nat) : Int)) := by show _ = _; omega
                  have HF3 : Hid (∀ q t : Nat, q < k → t < m → (if q = j ∧ t = u then ((max A C : Nat) : Int) else takeF l j i u q t) = takeF l j i (u + 1) q t) := fun q t _ _ => by
                    unfold takeF
                    by_cases e : q = j ∧ t = u
                    · rw [if_pos e, if_pos ⟨e.1, by omega⟩, hA, hC, e.2]
                    · rw [if_neg e]
                      by_cases e2 : q = j ∧ t < u
                      · rw [if_pos e2, if_pos ⟨e2.1, by omega⟩]
                      · rw [if_neg e2, if_neg (by omega)]
                  rw [← hA] at cj
                  rw [← hC] at ck
                  clear hA hC
                  go_upto_region 15 with fail
                  have hrbl := HM.out.high.2 j hlt
                  have hrbB := HM.out.low.2 j hlt
                  have HREL : Hid (∀ V2 : Int, V2 = ((max A C : Nat) : Int) → Rest (wr.drew.setCell ⟨rb j, u, none⟩ (.int .i64 V2)) wk w2 l k P (.slice (some ⟨b5, o5, none⟩) D d7) ∧ Mat (wr.drew.setCell ⟨rb j, u, none⟩ (.int .i64 V2)) w.heap.size wk.heap.size w.heap.size 28 3 k m k rb (takeF l j i (u + 1)) ∧ Below w.heap.size w (wr.drew.setCell ⟨rb j, u, none⟩ (.int .i64 V2)) ∧ w2.heap.size ≤ (wr.drew.setCell ⟨rb j, u, none⟩ (.int .i64 V2)).heap.size ∧ Blk (wr.drew.setCell ⟨rb j, u, none⟩ (.int .i64 V2)) gB 70 (evC x)) := by
                    intro V2 hV2
                    have h1 := HB2.out.size
                    refine ⟨HRE.out.keep fun b h1 h2 => blk_setCell_other _ _ _ (by show b ≠ rb j; omega), ?_, HB4.out.drew.setCell (p := ⟨rb j, u, none⟩) hrbB _, by rw [size_setCell]; exact hw3, HBX.out.keep (blk_setCell_other _ _ _ (by show gB ≠ rb j; omega))⟩
                    rw [hV2]
                    exact (HM.out.drew.put hlt _).congr HF3.out
                  go_still_tail 15, (by kernel_rfl)
                  change wpList _ _ _ _ _ wr.drew
                  go_wp2_with fail
                  go_roundw
                  case rel => exact ⟨u + 1, by omega, by go_num, HREL.out _ HMX.out⟩
                  case measure => simp [intOf]; omega
                · obtain rfl : u = m := by omega
                  obtain ⟨a9, ha9⟩ : ∃ a9 : Option Addr, a9 = if d7 = 1 then some ⟨b5, o5, none⟩ else (some ⟨b5, o5, none⟩ : Option Addr).map (·.add (1 * 2)) := ⟨_, rfl⟩
                  have hsl : ∀ w' : World, (Instr.slice 51 (.slice (some ⟨b5, o5, none⟩) D d7) (some (.int .i64 1)) none none).run Try.prog w' = .ok (.slice a9 (D - 1) (d7 - 1)) w' := fun w' => by
                    rw [ha9]
                    exact run_slice_tail (z := 2) Try.underlying51 (by kernel_rfl) _ D d7 1 (by omega) hd7 w'
                  have HRE9 : Hid (Rest wr wk w2 l k ((refTo l j).length + (rowTo l j (i + 1)).length) (.slice a9 (D - 1) (d7 - 1))) := by
                    have hlen : (refTo l j).length + (rowTo l j (i + 1)).length = P + 1 := by rw [rowTo, if_pos HED2.out, List.length_append, HP.out]; rfl
                    rw [hlen]
                    obtain ⟨a8, c8, e8, hd8, hn8, hm8, ha8⟩ := HRE.out.form
                    injection e8 with e8 e8b e8c
                    subst e8 e8c
                    have h1 := ha8.from d7 1 (by rw [List.length_drop]; omega) (by rw [List.length_drop]; omega)
                    rw [List.drop_drop] at h1
                    refine ⟨a9, d7 - 1, by rw [e8b, Nat.sub_sub], by omega, fun h => ?_, by omega, by rw [ha9]; exact h1⟩
                    rw [ha9] at h
                    split at h <;> cases h
                  have HM9 : Hid (Mat wr w.heap.size wk.heap.size w.heap.size 28 3 k u k rb (vecF l j (i + 1))) := HM.out.congr fun q t hq ht => by
                    unfold takeF vecF
                    by_cases e : q = j
                    · rw [if_pos ⟨e, ht⟩, if_neg (by omega), if_pos e, mx, if_pos HED2.out]
                    · rw [if_neg (fun h => e h.1)]
                      by_cases e2 : q < j
                      · rw [if_pos e2, if_pos e2]
                      · rw [if_neg e2, if_neg e, if_neg e2, if_neg e]
                  clear ha9 HRE HM
                  go_wp2_with fail
                  go_roundw
                  case rel => exact ⟨i + 1, by omega, HRE9.out, HM9.out, HB4.out, hw3, HBX.out⟩
                  case measure => simp [sliceLen]; omega
            · have hij2 : i = j := by rcases hedge with h | h; exact h; exact absurd h hed
              subst hij2
              have HPN : Hid (P = (refTo l (i + 1)).length) := by show _ = _; rw [HP.out, refTo, List.length_append]
              have hcell := HM.out.cell (k := i) (t := x.Thread.toNat) hlt (by omega)
              have HF : Hid (vecF l i i i x.Thread.toNat + 1 = (cnt l i x.Thread : Nat)) := by
                show _ = _
                rw [cnt_mx]
                unfold vecF
                rw [if_neg (by omega), if_pos rfl, if_pos (by unfold thr; rw [HX.out]; exact decide_eq_true rfl), Int.toNat_of_nonneg htx.1]
                omega
              have HF2 : Hid (∀ q t : Nat, q < k → t < m → (if q = i ∧ t = x.Thread.toNat then ((cnt l i x.Thread : Nat) : Int) else vecF l i i q t) = vecF l (i + 1) 0 q t) := fun q t hq ht => by
                by_cases e : q = i
                · subst e
                  unfold vecF
                  rw [if_pos (show q < q + 1 by omega), cnt_mx l q (t : Int)]
                  by_cases e2 : t = x.Thread.toNat
                  · rw [if_pos ⟨rfl, e2⟩, e2, Int.toNat_of_nonneg htx.1, cnt_mx]
                  · rw [if_neg (fun h => e2 h.2), if_neg (by omega), if_pos rfl, if_neg]
                    · rfl
                    · unfold thr
                      rw [HX.out]
                      simp only [decide_eq_true_eq]
                      omega
                · rw [if_neg (fun h => e h.1)]
                  unfold vecF
                  by_cases e2 : q < i
                  · rw [if_pos e2, if_pos (by omega)]
                  · rw [if_neg e2, if_neg e, if_neg (by omega)]
                    split <;> rfl
              obtain ⟨T, hT⟩ : ∃ T, T = x.Thread.toNat := ⟨_, rfl⟩
              have hTx : x.Thread = (T : Int) := by omega
              rw [← hT] at HF HF2 hcell
              have hTm : T < m := by omega
              have x2 : wi.cell? ⟨gB, 2, none⟩ = some (.int .i64 T) := by rw [x2, ← hTx]
              obtain ⟨V, hV⟩ : ∃ V, V = vecF l i i i T := ⟨_, rfl⟩
              have hVb : 0 ≤ V ∧ V ≤ 1000 := by
                rw [hV]; unfold vecF
                rw [if_neg (by omega), if_pos rfl]
                have := mx_le2 l i T (Nat.le_refl i)
                omega
              rw [← hV] at HF hcell
              clear hV hT htx hedge hed
              have hhead := HM.out.head (k := i) hlt
              have hrbl := HM.out.high.2 i hlt
              have hrbB := HM.out.low.2 i hlt
              have HREL : Hid (∀ V2 : Int, V2 = (cnt l i x.Thread : Nat) → Rest (wi.drew.setCell ⟨rb i, T, none⟩ (.int .i64 V2)) wk w2 l k (refTo l (i + 1)).length (.slice a7 D d7) ∧ Mat (wi.drew.setCell ⟨rb i, T, none⟩ (.int .i64 V2)) w.heap.size wk.heap.size w.heap.size 28 3 k m k rb (vecF l (i + 1) 0) ∧ Below w.heap.size w (wi.drew.setCell ⟨rb i, T, none⟩ (.int .i64 V2)) ∧ w2.heap.size ≤ (wi.drew.setCell ⟨rb i, T, none⟩ (.int .i64 V2)).heap.size) := by
                intro V2 hV2
                have h1 := HB2.out.size
                refine ⟨?_, ?_, HB3.out.drew.setCell (p := ⟨rb i, T, none⟩) hrbB _, by rw [size_setCell]; exact hw3⟩
                · rw [← HPN.out, HD.out]
                  exact HRE.out.keep fun b h1 h2 => blk_setCell_other _ _ _ (by show b ≠ rb i; omega)
                · rw [hV2]
                  exact (HM.out.drew.put hlt _).congr HF2.out
              have hfrz := HM.out.frozen (k := i) hlt T
              by_cases h0 : D = 0
              · subst h0
                go_upto_region 18 with fail
                go_still_tail 10, (by kernel_rfl)
                change wpList _ _ _ _ _ wi.drew
                go_wp2_with fail
                go_roundw
                case rel =>
                  exact ⟨i + 1, by omega, by go_num, HREL.out _ HF.out⟩
                case measure => simp [intOf]; omega
              · obtain ⟨x0, hx0⟩ : ∃ x0, (refTo l k)[P]? = some x0 := ⟨_, List.getElem?_eq_getElem (by have := HD.out; omega)⟩
                obtain ⟨b5, o5, rfl, p1, p2⟩ := HFST.out _ hx0
                have hne : (x0.J == (i : Int)) = false := by
                  rw [HPN.out] at hx0
                  simpa using refTo_past (by rw [HN.out]; exact Nat.le_refl _) hx0 (by omega)
                clear hx0
                have hD0 : decide (0 < (D : Int)) = true := by simp; omega
                go_upto_region 18 with fail
                go_still_tail 10, (by kernel_rfl)
                change wpList _ _ _ _ _ wi.drew
                go_wp2_with fail
                go_roundw
                case rel => exact ⟨i + 1, by omega, by go_num, HREL.out _ HF.out⟩
                case measure => simp [intOf]; omega
        · obtain rfl : j = k := by omega
          go_wp2_with fail
          go_ret
          have h1 := HB2.out.size
          refine ⟨w.heap.size, rb, rfl, ⟨HM.out.outer, fun k hk => ?_, HM.out.low, ⟨?_, fun k hk => ?_⟩, HM.out.off, HM.out.apart⟩, HBJ.out⟩
          · rw [rowV_congr (g := vecF l j 0 k) fun t ht => by unfold vecF; rw [if_pos hk]]
            exact HM.out.row k hk
          · have := HM.out.high.1; omega
          · have := HM.out.high.2 k hk; omega
end Go.Proofs.Ytffebdngmbbcoaa.clk
