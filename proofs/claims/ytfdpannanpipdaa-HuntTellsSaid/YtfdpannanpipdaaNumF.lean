/- The n-th interleaving: the program's Nth, walked. -/
import Derived.Test.YtfdpannanpipdaaNumE
import Derived.Lib.AppendZerosOnto
set_option linter.unusedVariables false
set_option linter.unusedSimpArgs false
namespace Go.Proofs.Ytfdpannanpipdaa.num
open Go.Bk Go.RowKit

theorem below_al {w W : World} {o : Obj} (h : Below w.heap.size w W) : Below w.heap.size w (W.alloc o) := h.alloc h.size o

/-- What Nth may tell. -/
def NthAns (l : List Int) (n : Int) (R : List Int × Int) : Prop :=
  if perr l ≠ 0 then R = ([], perr l) else if n < 0 ∨ ((ways (l.map Int.toNat) : Nat) : Int) ≤ n then R = ([], 1) else ∃ o, NthIs (l.map Int.toNat) n.toNat o ∧ R = (ints o, 0)
theorem NthAns.unique {l : List Int} {n : Int} {R1 R2 : List Int × Int} (h1 : NthAns l n R1) (h2 : NthAns l n R2) : R1 = R2 := by
  unfold NthAns at *
  split at h1
  · rename_i h; rw [if_pos h] at h2; rw [h1, h2]
  · rename_i h; rw [if_neg h] at h2
    split at h1
    · rename_i h'; rw [if_pos h'] at h2; rw [h1, h2]
    · rename_i h'; rw [if_neg h'] at h2
      obtain ⟨o1, h1, rfl⟩ := h1
      obtain ⟨o2, h2, rfl⟩ := h2
      rw [h1.unique h2]
def NthPost (l : List Int) (n : Int) (w : World) (e : Ending) (w' : World) : Prop :=
  ∃ R, NthAns l n R ∧ (∃ a' c', e = .returned (.tuple #[.slice a' R.1.length c', .int .i64 R.2]) ∧ Arr (fun b => w.heap.size ≤ b ∧ b < w'.heap.size) w' a' R.1) ∧ Below w.heap.size w w'
theorem int_cells {x : Int} (h : I64 x) (S : Nat → Prop) (w : World) : Rep.cells (α := Int) S w [.int .i64 x] x := ⟨rfl, h⟩
def nthRel (w w1 : World) (v1 : Value) (qs : List Nat) (N : Nat) (n out : Value) (w' : World) : Prop :=
  ∃ (left : List Nat) (m : Nat) (o : List Nat), left.length = qs.length ∧ o.length + left.sum = qs.sum ∧ n = .int .i64 (m : Nat) ∧ m < ways left ∧ Own (fun _ => False) w' w.heap.size 3 v1 (ints left) ∧ Own (fun _ => False) w' w1.heap.size 3 out (ints o) ∧
    (∀ r, NthIs left m r → NthIs qs N (o ++ r)) ∧ Below w.heap.size w w' ∧ w1.heap.size ≤ w'.heap.size
def selRel (w2 : World) (left : List Nat) (m K : Nat) (n k : Value) (w' : World) : Prop :=
  ∃ i : Nat, i ≤ K ∧ k = .int .i64 i ∧ n = .int .i64 ((m - pre left i : Nat) : Int) ∧ Below w2.heap.size w2 w'
theorem wo_test {left : List Nat} {m K i : Nat} (hs : IsSel left m K) (hi : i < K) : pre left i ≤ m ∧ wo left i ≤ m - pre left i := by
  have h1 := pre_le (qs := left) (show i + 1 ≤ K from hi)
  have h2 := hs.1
  have h3 : pre left (i + 1) = pre left i + wo left i := rfl
  omega
theorem wo_stop {left : List Nat} {m K : Nat} (hs : IsSel left m K) : ¬ wo left K ≤ m - pre left K := by
  have h2 := hs.1
  have h3 : m < pre left K + wo left K := hs.2
  omega
theorem own_len {w : World} {B n : Nat} {e : TypeId} {v : Value} {xs : List Int} (h : Own (fun _ => False) w B e v xs) (hn : xs.length = n) : ∃ a c, v = .slice a n c ∧ n ≤ c ∧ (a = none → c = 0) ∧ Arr (fun b => B ≤ b ∧ b < w.heap.size) w a xs := by
  obtain ⟨a, c, h1, h2, h3, h4⟩ := h.arr
  rw [hn] at h1 h2
  exact ⟨a, c, h1, h2, h3, h4.mono fun b hb => hb.elim (fun h => h.elim) id⟩
theorem ne_own {w1 w2 : World} {B1 B2 : Nat} {e1 e2 : TypeId} {u v : Value} {xs ys : List Int} (h1 : Own (fun _ => False) w1 B1 e1 v xs) (h2 : Own (fun _ => False) w2 B2 e2 u ys) (hb : w1.heap.size ≤ B2) : u.ownBlock = none ∨ u.ownBlock ≠ v.ownBlock := by
  cases hu : u.ownBlock with
  | none => exact .inl rfl
  | some k =>
    refine .inr fun he => ?_
    have := (h2.lt k hu).1
    have := (h1.lt k he.symm).2
    omega
theorem ne_sym {u v : Value} (h : u.ownBlock = none ∨ u.ownBlock ≠ v.ownBlock) : v.ownBlock = none ∨ v.ownBlock ≠ u.ownBlock := by
  cases hv : v.ownBlock with
  | none => exact .inl rfl
  | some k =>
    refine .inr fun he => ?_
    rcases h with h | h
    · rw [h] at he; cases he
    · exact h (by rw [hv, ← he])
theorem own_set {w : World} {B g j : Nat} {e : TypeId} {v u : Value} {xs : List Int} (h : Own (fun _ => False) w B e v xs) (hg : g < B) : Own (fun _ => False) (w.setCell ⟨g, j, none⟩ u) B e v xs := by
  refine h.keep (row := some g) ⟨rfl, rfl, rfl, by simp [World.setCell], fun k hk hne => ?_⟩ ?_ (fun _ h => h.elim)
  · simp only [World.setCell]
    rw [Array.getElem?_modify, if_neg (fun e => hne (by rw [← e]))]
  · cases hv : v.ownBlock with
    | none => exact .inl rfl
    | some k =>
      have := (h.lt k hv).1
      exact .inr (fun e => by have := Option.some.inj e; omega)
theorem nonneg_left (left : List Nat) : ∀ x ∈ ints left ++ [0], (0 : Int) ≤ x := fun x hx => by
  rcases List.mem_append.1 hx with h | h
  · obtain ⟨q, -, rfl⟩ := List.mem_map.1 h
    omega
  · simp at h; omega
def lenOf : Value → Nat
  | .slice _ n _ => n
  | _ => 0

set_option maxRecDepth 100000 in
set_option maxHeartbeats 2000000 in
theorem nth_any {S : Nat → Prop} {w : World} {a : Option Addr} {c n : Nat} {l : List Int} {N : Int} (hn : l.length = n) (h : Arr S w a l) (hS : ∀ b, S b → b < w.heap.size) (hnil : a = none → c = 0) (hN : I64 N) :
    Calls Try.prog 26 #[.slice a n c, .int .i64 N] w (NthPost l N w) := by
  have HRI := Lib.hid (right_any (c := c) hn h)
  unfold I64 at hN
  by_cases h0 : perr l = 0
  · obtain ⟨qs, rfl, h8, h12⟩ := perr_zero h0
    have hn' := hn
    rw [ints_len] at hn'
    rw [h0] at HRI
    have HC := Lib.hid (count_any (c := c) hn' h h12)
    have hw := ways_small h12
    have hwp := ways_pos qs
    by_cases hbad : N < 0 ∨ ((ways qs : Nat) : Int) ≤ N
    · have HA : Hid (NthAns (ints qs) N ([], 1)) := by show NthAns _ _ _; unfold NthAns; rw [if_neg (by simp [h0]), toNats, if_pos hbad]
      clear h0 hn hn' h hnil
      by_cases hneg : N < 0
      · go_enter Try.func26, Try.ntmps26
        go_wp2_with fail
        refine HRI.out.mono ?_
        rintro e w' ⟨rfl, rfl⟩
        go_wp2_with fail
        go_ret2
        exact ⟨_, HA.out, ⟨none, 0, rfl, Arr.nil _ _ _⟩, Below.refl _ _⟩
      · have hge : ((ways qs : Nat) : Int) ≤ N := by omega
        clear hbad
        go_enter Try.func26, Try.ntmps26
        go_wp2_with fail
        refine HRI.out.mono ?_
        rintro e w' ⟨rfl, rfl⟩
        go_wp2_with fail
        refine HC.out.mono ?_
        rintro e w' ⟨rfl, rfl⟩
        go_wp2_with fail
        go_ret2
        exact ⟨_, HA.out, ⟨none, 0, rfl, Arr.nil _ _ _⟩, Below.refl _ _⟩
    · have hN0 : 0 ≤ N := by omega
      obtain ⟨M, rfl⟩ : ∃ M : Nat, N = M := ⟨N.toNat, by omega⟩
      have hMW : M < ways qs := by omega
      have HA : Hid (∀ o, NthIs qs M o → NthAns (ints qs) M (ints o, 0)) := fun o ho => by unfold NthAns; rw [if_neg (by simp [h0]), toNats, if_neg hbad]; exact ⟨o, by simpa using ho, rfl⟩
      have HCL := Lib.hid (cloneI_any (n := n) (c := c) hn h hnil hS (by omega))
      have HN := Lib.hid hn'
      have hge : ¬ ((ways qs : Nat) : Int) ≤ (M : Int) := by omega
      have hdn : decide ((M : Int) < 0) = false := decide_eq_false (by omega)
      clear h0 hn hn' h hnil hbad
      go_enter Try.func26, Try.ntmps26
      go_wp2_with fail
      refine HRI.out.mono ?_
      rintro e w' ⟨rfl, rfl⟩
      go_wp2_with fail
      refine HC.out.mono ?_
      rintro e w' ⟨rfl, rfl⟩
      go_wp2_with fail
      refine HCL.out.mono ?_
      rintro e w1 ⟨v1, rfl, hown, hb⟩
      obtain ⟨al, cl, rfl, hcl, hnl, -⟩ := own_len (n := n) hown (by rw [ints_len]; exact HN.out)
      have HO := Lib.hid hown
      have HB := Lib.hid hb
      clear hown hb HCL HC HRI
      go_wp2_with fail
      obtain ⟨wz, hwz⟩ : ∃ wz : World, wz = w1 := ⟨_, rfl⟩
      go_loopw [1, 8] (nthRel w wz (.slice al n cl) qs M) (fun _ o _ => 13 - lenOf o)
      case atStart => exact ⟨qs, M, [], rfl, by simp, rfl, hMW, HO.out, Own.nil _ _ _ _, fun r h => h, HB.out, by rw [hwz]; exact Nat.le_refl _⟩
      case round =>
        subst hwz
        obtain ⟨left, m, o, hll, hol, rfl, hmw, hleft, hout, hto, hb, hsz⟩ := hrel
        have hlen : left.length = n := by rw [hll, HN.out]
        obtain ⟨ao, co, rfl, hco, hno, -⟩ := own_len hout (ints_len o)
        have hl1 := hleft.alloc (.cells #[.int .i64 0] 3) (fun _ h => h.elim)
        have ho1 := hout.alloc (.cells #[.int .i64 0] 3) (fun _ h => h.elim)
        have hs1 := hb.size
        obtain ⟨v', wa, hrun, hL, hV, hg⟩ := run_append_keep (P := Try.prog) (t := 30) (ty := 30) Try.underlying30 Try.info3 rfl hl1 (y := 0) (by unfold I64; omega) (gb := wr.heap.size) (c := 1) ((blk_new wr [.int .i64 0] 3).cell (j := 0) rfl) (by rw [ints_len]; omega) (by omega) (by simp; omega)
        obtain ⟨a8, c8, rfl, -, -, hV4⟩ := own_len (n := n + 1) hV (by simp [ints_len, hlen])
        have HOa := Lib.hid (ho1.keep hg (ne_own HO.out ho1 (Nat.le_refl _)) (fun _ h => h.elim))
        have HLa := Lib.hid hL
        have HBa : Hid (Below w.heap.size w wa) := (below_al hb).grown hg (below_al hb).size (fun r hr => (HO.out.lt r hr).1)
        have HSa : Hid (wz.heap.size ≤ wa.heap.size) := Nat.le_trans hsz (Nat.le_trans (by simp) hg.size)
        have HMX := Lib.hid (max_any (n := n + 1) (c := c8) (by simp [ints_len, hlen]) hV4 (by omega) (nonneg_left left))
        have hM := maxI_left left
        obtain ⟨X, hX⟩ : ∃ X, maxI (ints left ++ [0]) = X := ⟨_, rfl⟩
        rw [hX] at HMX hM
        have HTO := Lib.hid hto
        clear hX hL hV hV4 hg hl1 ho1 hb hsz hto hleft hout
        by_cases hz : left.sum = 0
        · have hX0 : ¬ 0 < X := by have := hM.2 hz; omega
          have HANS := Lib.hid (HA.out _ (HTO.out [] (.done hz)))
          clear hM hz hmw
          go_wp2_with (at_builtin; refine Lib.wpList_append_run _ rfl _ _ _ _ rfl _ _ rfl rfl (.slice a8 (n + 1) c8) wa (by with_unfolding_all exact hrun) ?_)
          refine HMX.out.mono ?_
          rintro e w' ⟨rfl, rfl⟩
          go_wp2_with fail
          go_ret2
          rw [List.append_nil] at HANS
          have hfin := (arr_of_own HOa.out).1
          exact ⟨_, HANS.out, ⟨ao, co, by rw [ints_len]; rfl, hfin.mono fun b hb => hb.elim (fun h => h.elim) fun h => ⟨Nat.le_trans HB.out.size h.1, h.2⟩⟩, HBa.out⟩
        · have hX0 : 0 < X := by
            rcases Int.lt_or_le 0 X with h | h
            · exact h
            · exact absurd (hM.1 h) hz
          obtain ⟨K, hK⟩ := sel_ex hz hmw
          have HK := Lib.hid hK
          clear hM hmw hK
          go_wp2_with (at_builtin; refine Lib.wpList_append_run _ rfl _ _ _ _ rfl _ _ rfl rfl (.slice a8 (n + 1) c8) wa (by with_unfolding_all exact hrun) ?_)
          refine HMX.out.mono ?_
          rintro e w' ⟨rfl, rfl⟩
          clear HMX hrun
          go_wp2_with fail
          have HLA : Hid (∀ W, Below wa.heap.size wa W → Arr (· < W.heap.size) W al (ints left)) := fun W hW => ((arr_of_own HLa.out).1.keep (fun b hb => hW.block b (hb.elim (fun h => h.elim) (·.2)))).mono (fun b hb => Nat.lt_of_lt_of_le (hb.elim (fun h => h.elim) (·.2)) hW.size)
          have hls : left.sum ≤ 12 := by omega
          have hKl := HK.out.lt
          rw [hlen] at hKl
          have hn8 : n ≤ 8 := by have := HN.out; omega
          have hmb : m ≤ 479001600 := by
            have := HK.out.lt
            have h2 := HK.out.2
            have h3 := pre_le_ways left (k := K + 1) (by omega)
            have := ways_small hls
            omega
          obtain ⟨wb, hwb⟩ : ∃ wb : World, wb = wa := ⟨_, rfl⟩
          go_loopw [1, 9] (selRel wb left m K) (fun _ k _ => K + 1 - (intOf k).toNat)
          case atStart => exact ⟨0, Nat.zero_le _, rfl, by simp [pre], by rw [hwb]; exact Below.refl _ _⟩
          case round =>
            subst hwb
            obtain ⟨i, hi, rfl, rfl, hbi⟩ := hrel
            have HBI := Lib.hid hbi
            clear hbi
            have hin : i < n := by omega
            by_cases hlt : i < K
            · obtain ⟨t1, t2⟩ := wo_test HK.out hlt
              have HPS : Hid (pre left (i + 1) = pre left i + wo left i) := rfl
              have HW1 := Lib.hid (without_any (k := i) (c := cl) hlen (HLA.out _ HBI.out) (fun b h => h) hls hin hnl hn8)
              obtain ⟨u, hu⟩ : ∃ u, wo left i = u := ⟨_, rfl⟩
              obtain ⟨p, hp⟩ : ∃ p, m - pre left i = p := ⟨_, rfl⟩
              rw [hu] at HW1 HPS t2
              rw [hp] at t2
              rw [hp]
              have hpm : p ≤ 479001600 := by omega
              have HU := Lib.hid hu
              have HPP := Lib.hid hp
              clear hu hp
              go_wp2_with fail
              refine HW1.out.mono ?_
              rintro e w3 ⟨rfl, hb3⟩
              have HB3 := Lib.hid (HBI.out.trans (hb3.mono HBI.out.size))
              have HW2 := Lib.hid (without_any (k := i) (c := cl) hlen (HLA.out _ HB3.out) (fun b h => h) hls hin hnl hn8)
              rw [HU.out] at HW2
              clear hb3
              go_wp2_with fail
              refine HW2.out.mono ?_
              rintro e w4 ⟨rfl, hb4⟩
              have HB4 := Lib.hid (HB3.out.trans (hb4.mono HB3.out.size))
              clear hb4 HW1 HW2
              go_wp2_with fail
              go_roundw
              case rel => exact ⟨i + 1, by omega, by go_num, by rw [HPS.out]; have := HPP.out; congr 1; omega, HB4.out⟩
              case measure => simp [intOf]; omega
            · obtain rfl : i = K := by omega
              have t2 := wo_stop HK.out
              have HW1 := Lib.hid (without_any (k := i) (c := cl) hlen (HLA.out _ HBI.out) (fun b h => h) hls hin hnl hn8)
              obtain ⟨u, hu⟩ : ∃ u, wo left i = u := ⟨_, rfl⟩
              obtain ⟨p, hp⟩ : ∃ p, m - pre left i = p := ⟨_, rfl⟩
              rw [hu] at HW1 t2
              rw [hp] at t2
              rw [hp]
              have hpm : p ≤ 479001600 := by omega
              have HU := Lib.hid hu
              have HPP := Lib.hid hp
              clear hu hp
              go_wp2_with fail
              refine HW1.out.mono ?_
              rintro e w3 ⟨rfl, hb3⟩
              have HB3 := Lib.hid (HBI.out.trans (hb3.mono HBI.out.size))
              clear hb3 HW1
              have hO3 := (HOa.out.below HB3.out (fun _ h => h.elim)).alloc (.cells #[.int .i64 (i : Nat)] 3) (fun _ h => h.elim)
              have hL3 := (HLa.out.below HB3.out (fun _ h => h.elim)).alloc (.cells #[.int .i64 (i : Nat)] 3) (fun _ h => h.elim)
              have hs3 := HB3.out.size
              have hsa := HSa.out
              have hB3 := (HBa.out.trans (HB3.out.mono HBa.out.size))
              obtain ⟨v9, wc, hrun2, -, hV9, hg9⟩ := run_append_keep (P := Try.prog) (t := 30) (ty := 30) Try.underlying30 Try.info3 rfl hO3 (y := (i : Nat)) (by unfold I64; omega) (gb := w3.heap.size) (c := 1) ((blk_new w3 [.int .i64 (i : Nat)] 3).cell (j := 0) rfl) (by rw [ints_len]; omega) (by omega) (by simp; omega)
              have hne := (ne_own HO.out hO3 (Nat.le_refl _))
              have hL9 := hL3.keep hg9 (ne_sym hne) (fun _ h => h.elim)
              obtain ⟨q, hq⟩ : ∃ x, left[i]? = some x := ⟨_, List.getElem?_eq_getElem (by omega)⟩
              have hq0 : q ≠ 0 := by have := HK.out.pos; rwa [getD_of hq] at this
              obtain ⟨g, cap, hgl, hgB, -, -, hcell, hfr, hix, hset⟩ := own_int_at (n := n) hL9 (by rw [ints_len]; exact hlen) (ints_get hq)
              injection hgl with eg1 _ eg2
              subst eg1 eg2
              have hgw := (HO.out.lt g rfl).2
              obtain ⟨a9, c9, rfl, -, -, -⟩ := own_len (n := o.length + 1) hV9 (by simp [ints_len])
              have HSET := Lib.hid (hset ((q : Int) - 1) (by unfold I64 at hix ⊢; omega))
              have HV9 : Hid (Own (fun _ => False) (wc.setCell ⟨g, i, none⟩ (.int .i64 ((q : Int) - 1))) wz.heap.size 3 (.slice a9 (o.length + 1 : Nat) c9) (ints (o ++ [i]))) := by
                have := own_set (j := i) (u := .int .i64 ((q : Int) - 1)) hV9 hgw
                show Own _ _ _ _ _ _
                simpa [ints] using this
              have HBC : Hid (Below w.heap.size w (wc.setCell ⟨g, i, none⟩ (.int .i64 ((q : Int) - 1)))) := ((below_al hB3).grown hg9 (below_al hB3).size (fun r hr => Nat.le_trans HB.out.size (hO3.lt r hr).1)).setCell (p := ⟨g, i, none⟩) hgB _
              have HSC : Hid (wz.heap.size ≤ (wc.setCell ⟨g, i, none⟩ (.int .i64 ((q : Int) - 1))).heap.size) := by
                show _ ≤ _
                have := hg9.size
                simp at this
                simp [World.setCell]
                omega
              have HIQ := Lib.hid (ints_dec hq hq0)
              have HDS := Lib.hid (dec_sum left i (by rw [getD_of hq]; exact hq0))
              unfold I64 at hix
              clear hO3 hL3 hB3 hV9 hg9 hne hL9 hset hq
              go_wp2_with (at_builtin; refine Lib.wpList_append_run _ rfl _ _ _ _ rfl _ _ rfl rfl (.slice a9 (o.length + 1 : Nat) c9) wc (by with_unfolding_all exact hrun2) ?_)
              go_roundw
              case rel =>
                refine ⟨dec left i, m - pre left i, o ++ [i], by rw [dec_len, hll], ?_, by rw [HPP.out], HK.out.rest, by rw [← HIQ.out]; exact HSET.out, HV9.out, fun r hr => ?_, HBC.out, HSC.out⟩
                · have := HDS.out
                  simp
                  omega
                · have := HTO.out (i :: r) (.step HK.out hr)
                  rwa [List.append_assoc]
              case measure => 
                show 13 - (o.length + 1) < 13 - o.length
                omega
  · have HA : Hid (NthAns l N ([], perr l)) := by show NthAns _ _ _; unfold NthAns; rw [if_pos h0]
    have hd : decide (perr l = 0) = false := decide_eq_false h0
    obtain ⟨E, hE⟩ : ∃ E, perr l = E := ⟨_, rfl⟩
    rw [hE] at HRI HA hd h0
    clear h hn hE hnil
    go_enter Try.func26, Try.ntmps26
    go_wp2_with fail
    refine HRI.out.mono ?_
    rintro e w' ⟨rfl, rfl⟩
    go_wp2_with fail
    go_ret2
    exact ⟨_, HA.out, ⟨none, 0, rfl, Arr.nil _ _ _⟩, Below.refl _ _⟩
end Go.Proofs.Ytfdpannanpipdaa.num
