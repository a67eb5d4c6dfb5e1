/- HuntTells: the document's side: IsSuspect, HuntErr, HuntPick: walked. -/
import Derived.Test.YtfdpannanpipdaaHuntD
import Derived.Test.YtfdpannanpipdaaNumH
import Derived.Test.YtfdpannanpipdaaSliceC
set_option linter.unusedVariables false
set_option linter.unusedSimpArgs false
namespace Go.Proofs.Ytfdpannanpipdaa.hunt
open Go.Bk Go.RowKit slice

theorem rhangs_at {S : Nat → Prop} {w : World} {a : Option Addr} {c m : Nat} {l : List Api.DDep} {i n : Nat} (h : Arr S w a l) (hS : ∀ b, S b → b < w.heap.size) (hv : Valid l) (hm : l.length = m) (hi : i < m) (hn : n < m) (hlen : m ≤ 200) :
    Calls Try.prog 85 #[.slice a m c, .int .i64 (i : Nat), .int .i64 (n : Nat)] w fun e w' => e = .returned (.bool (hangs l i n)) ∧ Below w.heap.size w w' := by
  subst hm
  exact rhangs_any h hS hv hi hn hlen
theorem rerr_at {S S2 : Nat → Prop} {w : World} {a a2 : Option Addr} {c c2 n n2 : Nat} {l : List Api.DDep} {ps : List Int} (h : Arr S w a l) (h2 : Arr S2 w a2 ps) (hn : l.length = n) (hn2 : ps.length = n2) :
    Calls Try.prog 84 #[.slice a n c, .slice a2 n2 c2] w fun e w' => e = .returned (.int .i64 (errOf l ps)) ∧ Quiet w w' := hn ▸ hn2 ▸ rerr_any h h2
/-- The lists, as they lie in whatever world comes of this one. -/
structure Ask (w : World) (l : List Api.DDep) (gs : List Nat) (a a2 : Option Addr) (n n2 : Nat) : Prop where
  len : l.length = n
  len2 : gs.length = n2
  small : n ≤ 200
  valid : Valid l
  all : ∀ g ∈ gs, g < n
  arr : ∃ S : Nat → Prop, Arr S w a l ∧ ∀ b, S b → b < w.heap.size
  arr2 : ∃ S : Nat → Prop, Arr S w a2 (gs.map Int.ofNat) ∧ ∀ b, S b → b < w.heap.size
theorem Ask.below {w w' : World} {l : List Api.DDep} {gs : List Nat} {a a2 : Option Addr} {n n2 : Nat} (h : Ask w l gs a a2 n n2) (hb : Below w.heap.size w w') : Ask w' l gs a a2 n n2 := by
  obtain ⟨S, hS, hS'⟩ := h.arr
  obtain ⟨T, hT, hT'⟩ := h.arr2
  exact ⟨h.len, h.len2, h.small, h.valid, h.all, ⟨S, hS.keep (fun b hb' => hb.block b (hS' b hb')), fun b hb' => Nat.lt_of_lt_of_le (hS' b hb') hb.size⟩, ⟨T, hT.keep (fun b hb' => hb.block b (hT' b hb')), fun b hb' => Nat.lt_of_lt_of_le (hT' b hb') hb.size⟩⟩
theorem Ask.hangs {w : World} {l : List Api.DDep} {gs : List Nat} {a a2 : Option Addr} {n n2 c i k : Nat} (h : Ask w l gs a a2 n n2) (hi : i < n) (hk : k < n) :
    Calls Try.prog 85 #[.slice a n c, .int .i64 (i : Nat), .int .i64 (k : Nat)] w fun e w' => e = .returned (.bool (hangs l i k)) ∧ Below w.heap.size w w' := by
  obtain ⟨S, hS, hS'⟩ := h.arr
  exact rhangs_at hS hS' h.valid h.len hi hk h.small
theorem Ask.good {w : World} {l : List Api.DDep} {gs : List Nat} {a a2 : Option Addr} {n n2 k g : Nat} (h : Ask w l gs a a2 n n2) (hg : gs[k]? = some g) : ∃ b off, a2 = some ⟨b, off, none⟩ ∧ w.cell? ⟨b, off + k, none⟩ = some (.int .i64 (g : Nat)) := by
  obtain ⟨S, hS, -⟩ := h.arr2
  obtain ⟨b, off, he, -, q, -⟩ := arr_int hS (k := k) (x := (g : Int)) (by rw [List.getElem?_map, hg]; rfl)
  exact ⟨b, off, he, q⟩
theorem all_takeN {p : Nat → Bool} {l : List Nat} {k x : Nat} (hx : l[k]? = some x) (h : (l.take k).all p = true) (hp : p x = true) : (l.take (k + 1)).all p = true := by
  rw [List.take_add_one, hx, List.all_append, h]; simp [hp]

set_option maxRecDepth 100000 in
theorem issus_any {w : World} {l : List Api.DDep} {gs : List Nat} {a a2 : Option Addr} {n n2 c c2 k bd : Nat} (hA : Ask w l gs a a2 n n2) (hk : k < n) (hbd : bd < n) (hn2 : n2 ≤ 1000000) :
    Calls Try.prog 37 #[.slice a n c, .int .i64 (k : Nat), .int .i64 (bd : Nat), .slice a2 n2 c2] w fun e w' => e = .returned (.bool (sus l bd gs k)) ∧ Below w.heap.size w w' := by
  have HA := Lib.hid hA
  have HH := Lib.hid (hA.hangs (c := c) hbd hk)
  obtain ⟨R, hR⟩ : ∃ R, sus l bd gs k = R := ⟨_, rfl⟩
  rw [hR]
  have hRR := hR
  unfold sus at hRR
  have HR := Lib.hid hRR
  clear hA hR hRR
  go_enter Try.func37, Try.ntmps37
  go_wp2_with fail
  refine HH.out.mono ?_
  rintro e w1 ⟨rfl, hb1⟩
  have HB1 := Lib.hid hb1
  clear hb1 HH
  cases hh : hangs l bd k with
  | false =>
    have hR : R = false := by rw [← HR.out, hh, Bool.false_and]
    subst hR
    clear hh
    go_wp2_with fail
    go_ret
    exact ⟨rfl, HB1.out⟩
  | true =>
    have HR2 : Hid ((gs.all fun g => !hangs l g k) = R) := by show _ = _; rw [← HR.out, hh, Bool.true_and]
    clear hh HR
    go_wp2_with fail
    go_loopw [9] (fun i w' => ∃ j : Nat, j ≤ n2 ∧ i = .int .i64 j ∧ ((gs.take j).all fun g => !hangs l g k) = true ∧ Below w.heap.size w w') (fun i _ => n2 - (intOf i).toNat)
    case atStart => exact ⟨0, Nat.zero_le _, rfl, rfl, HB1.out⟩
    case round =>
      obtain ⟨j, hj, rfl, hall, hbw⟩ := hrel
      have HAL := Lib.hid hall; have HBW := Lib.hid hbw
      have hAw := HA.out.below hbw
      clear hall hbw
      by_cases hlt : j < n2
      · obtain ⟨g, hg⟩ := norm.get_lt HA.out.len2 hlt
        obtain ⟨b, off, rfl, q1⟩ := hAw.good hg
        have HHg := Lib.hid (hAw.hangs (c := c) (HA.out.all g (List.mem_of_getElem? hg)) hk)
        have HG := Lib.hid hg
        clear hAw hg
        go_wp2_with fail
        refine HHg.out.mono ?_
        rintro e w3 ⟨rfl, hb3⟩
        have HB3 := Lib.hid (HBW.out.trans (hb3.mono HBW.out.size))
        clear hb3 HHg
        cases hh : hangs l g k with
        | true =>
          have hR : R = false := by
            rw [← HR2.out, List.all_eq_false]
            exact ⟨g, List.mem_of_getElem? HG.out, by rw [hh]; simp⟩
          subst hR
          clear hh
          go_wp2_with fail
          go_ret
          exact ⟨rfl, HB3.out⟩
        | false =>
          have HAL2 := Lib.hid (all_takeN (p := fun g => !hangs l g k) HG.out HAL.out (by rw [hh]; rfl))
          clear hh
          go_wp2_with fail
          go_roundw
          case rel => exact ⟨j + 1, by omega, by go_num, HAL2.out, HB3.out⟩
          case measure => simp [intOf]; omega
      · obtain rfl : j = n2 := by omega
        have hR : R = true := by rw [← HR2.out]; have := HAL.out; rwa [← HA.out.len2, List.take_length] at this
        subst hR
        clear hAw
        go_wp2_with fail
        go_ret
        exact ⟨rfl, HBW.out⟩

set_option maxRecDepth 100000 in
theorem rhuntErr_any {S S2 : Nat → Prop} {w : World} {a a2 : Option Addr} {c c2 n n2 : Nat} {E : Int} {l : List Api.DDep} {bad : Int} {good : List Int} (hn : l.length = n) (hn2 : good.length = n2) (h : Arr S w a l) (h2 : Arr S2 w a2 good) (hS : ∀ b, S b → b < w.heap.size) (hS2 : ∀ b, S2 b → b < w.heap.size) (hnil2 : a2 = none → c2 = 0) (hb : I64 bad) (hE : huntErr l bad good = E) (hg5 : n2 ≤ 1000) :
    Calls Try.prog 36 #[.slice a n c, .int .i64 bad, .slice a2 n2 c2] w fun e w' => e = .returned (.int .i64 E) ∧ Below w.heap.size w w' := by
  have hW : Below w.heap.size w (w.alloc (.cells #[.int .i64 bad] 3)) := (Below.refl _ _).alloc (Nat.le_refl _) _
  have HOB : Hid (Own (fun _ => False) (w.alloc (.cells #[.int .i64 bad] 3)) w.heap.size 3 (.slice (some ⟨w.heap.size, 0, none⟩) 1 1) [bad]) := num.own_box (blk_new w [.int .i64 bad] _) (Nat.le_refl _) hb
  have HA2 : Hid (Arr S2 (w.alloc (.cells #[.int .i64 bad] 3)) a2 good) := h2.keep (fun b hb => hW.block b (hS2 b hb))
  have HN := Lib.hid hn; have HN2 := Lib.hid hn2; have HNI := Lib.hid hnil2
  have HFM : Hid (∀ (w' : World) (v' : Value), Own (fun _ => False) w' w.heap.size 3 v' ([bad] ++ good) → ∃ a' c', v' = .slice a' (n2 + 1) c' ∧ Arr (fun b => w.heap.size ≤ b ∧ b < w'.heap.size) w' a' (bad :: good)) := fun w' v' ho => by
    obtain ⟨a', c', hv, -, -, ha⟩ := num.own_len (n := n2 + 1) ho (by rw [List.length_append, hn2, List.length_singleton]; omega)
    exact ⟨a', c', hv, ha⟩
  have hsz : w.heap.size ≤ (w.alloc (.cells #[.int .i64 bad] 3)).heap.size := hW.size
  obtain ⟨E0, hE0⟩ : ∃ E0, errOf l (bad :: good) = E0 := ⟨_, rfl⟩
  have HE0 := Lib.hid hE0; have HE := Lib.hid hE
  have HLEN : Hid ([bad].length + n2 ≤ 1000000000) := by show _ ≤ _; rw [List.length_singleton]; omega
  clear hnil2 hn hn2 h2 hE0 hE
  go_enter Try.func36, Try.ntmps36
  go_wp2_with ((at_builtin; with_reducible refine Try.wp_apps30 rfl rfl rfl rfl (HN2.out) (HOB.out) (HA2.out) Try.flat30 (HNI.out) (fun _ h => h.elim) (by exact HLEN.out) (by exact hsz) fun v' w' hown' hg' => ?_); obtain ⟨a3, c3, rfl, har3⟩ := HFM.out _ _ hown'; have HG3 := Lib.hid hg'; have HR3 := Lib.hid har3; clear hown' hg' har3)
  have hbw : Below w.heap.size w w' := hW.grown HG3.out hsz (fun k hk => by have : w.heap.size = k := Option.some.inj hk; omega)
  have HBW := Lib.hid hbw
  refine (rerr_at (c := c) (c2 := c3) (n2 := n2 + 1) (h.keep (fun b hb => hbw.block b (hS b hb))) HR3.out HN.out (by rw [List.length_cons, HN2.out])).mono ?_
  rintro e w4 ⟨rfl, hq4⟩
  rw [HE0.out]
  have HB4 := Lib.hid (HBW.out.trans (hq4.below _))
  clear hq4 hbw
  by_cases h0 : E0 = 0
  · subst h0
    have hAs := asked_of HE0.out
    have hsus := huntErr_sus HE0.out
    rw [HE.out] at hsus
    obtain ⟨bd, hbd⟩ : ∃ bd, bad.toNat = bd := ⟨_, rfl⟩
    obtain ⟨gs, hgs⟩ : ∃ gs, good.map Int.toNat = gs := ⟨_, rfl⟩
    rw [hbd, hgs] at hAs hsus
    obtain ⟨hl, hv, rfl, rfl, hlt, hall⟩ := hAs
    rw [HN.out] at hl hlt hall
    have hA4 : Ask w4 l gs a a2 n n2 := ⟨HN.out, by have := HN2.out; rwa [List.length_map] at this, hl, hv, hall, ⟨S, h.keep (fun b hb => HB4.out.block b (hS b hb)), fun b hb => Nat.lt_of_lt_of_le (hS b hb) HB4.out.size⟩, ⟨S2, (HA2.out.keep (w' := w4) (fun b hb => (HB4.out.block b (hS2 b hb)).trans (hW.block b (hS2 b hb)).symm)), fun b hb => Nat.lt_of_lt_of_le (hS2 b hb) HB4.out.size⟩⟩
    have HIS := Lib.hid (issus_any (c := c) (c2 := c2) hA4 hlt hlt (by omega))
    have HSU := Lib.hid hsus
    clear hsus hbd hgs hA4 hall hv h
    go_wp2_with fail
    refine HIS.out.mono ?_
    rintro e w5 ⟨rfl, hb5⟩
    have HB5 := Lib.hid (HB4.out.trans (hb5.mono HB4.out.size))
    clear hb5 HIS
    cases hs : sus l bd gs bd with
    | true =>
      have hE1 : E = 0 := by rw [HSU.out, if_pos hs]
      subst hE1
      clear hs
      go_wp2_with fail
      go_ret
      exact ⟨rfl, HB5.out⟩
    | false =>
      have hE1 : E = 8 := by rw [HSU.out, hs, if_neg (by simp)]
      subst hE1
      clear hs
      go_wp2_with fail
      go_ret
      exact ⟨rfl, HB5.out⟩
  · have hE1 : E = E0 := by rw [← HE.out, huntErr_bad (by rw [HE0.out]; exact h0), HE0.out]
    subst hE1
    have hd : (E == 0) = false := by simpa using h0
    clear h
    go_wp2_with fail
    go_ret
    exact ⟨rfl, HB4.out⟩

def rpkRel (w : World) (l : List Api.DDep) (bd : Nat) (gs : List Nat) (n : Nat) (b o i : Value) (w' : World) : Prop :=
  ∃ q : Nat, q ≤ n ∧ i = .int .i64 q ∧ b = .int .i64 (pkTo l bd gs q).1 ∧ o = .int .i64 (pkTo l bd gs q).2 ∧ Below w.heap.size w w'
def rprRel (w : World) (l : List Api.DDep) (bd : Nat) (gs : List Nat) (n q : Nat) (p r i : Value) (w' : World) : Prop :=
  ∃ k : Nat, k ≤ n ∧ i = .int .i64 k ∧ p = .int .i64 (part l bd gs q k : Nat) ∧ r = .int .i64 (rest l bd gs q k : Nat) ∧ Below w.heap.size w w'
theorem pkTo_range (l : List Api.DDep) (b : Nat) (gs : List Nat) {q : Nat} (hl : 0 < l.length) (hq : q ≤ l.length) : (-1 ≤ (pkTo l b gs q).1 ∧ (pkTo l b gs q).1 ≤ l.length) ∧ (-1 ≤ (pkTo l b gs q).2 ∧ (pkTo l b gs q).2 < l.length) := by
  rw [← pkF_filt]
  refine pkF_range _ hl fun x hx => ?_
  obtain ⟨k, h1, h2, -⟩ := filt_mem.1 hx
  exact ⟨k, h1, by omega⟩

set_option maxRecDepth 100000 in
set_option maxHeartbeats 1000000 in
theorem rpick_any {w : World} {l : List Api.DDep} {gs : List Nat} {a a2 : Option Addr} {n n2 c c2 bd : Nat} (hA : Ask w l gs a a2 n n2) (hbd : bd < n) (hn2 : n2 ≤ 1000000) :
    Calls Try.prog 38 #[.slice a n c, .int .i64 (bd : Nat), .slice a2 n2 c2] w fun e w' => e = .returned (.int .i64 (pick l bd gs)) ∧ Below w.heap.size w w' := by
  have HA := Lib.hid hA
  have hn200 := hA.small
  have HPE : Hid ((pkTo l bd gs n).2 = pick l bd gs) := by show _ = _; rw [← hA.len]; rfl
  obtain ⟨pk, hpk⟩ : ∃ pk, pick l bd gs = pk := ⟨_, rfl⟩
  rw [hpk] at HPE ⊢
  clear hA hpk
  go_enter Try.func38, Try.ntmps38
  go_wp2_with fail
  go_loopw [7, 8, 9] (rpkRel w l bd gs n) (fun _ _ i _ => n - (intOf i).toNat)
  case atStart => exact ⟨0, Nat.zero_le _, rfl, rfl, rfl, Below.refl _ _⟩
  case round =>
    obtain ⟨q, hq, rfl, rfl, rfl, hbw⟩ := hrel
    have HBW := Lib.hid hbw
    have hAw := HA.out.below hbw
    clear hbw
    by_cases hlt : q < n
    · have HIS := Lib.hid (issus_any (c := c) (c2 := c2) hAw hlt hbd hn2)
      have hrg := pkTo_range l bd gs (q := q) (by rw [HA.out.len]; omega) (by rw [HA.out.len]; exact hq)
      have hst : pkTo l bd gs (q + 1) = if sus l bd gs q then stepP l bd gs (pkTo l bd gs q) q else pkTo l bd gs q := rfl
      obtain ⟨⟨B, O⟩, hBO⟩ : ∃ st, pkTo l bd gs q = st := ⟨_, rfl⟩
      rw [hBO] at hst hrg ⊢
      rw [HA.out.len] at hrg
      dsimp only at hrg ⊢
      have HSTP := Lib.hid hst
      clear hst hBO
      by_cases hqb : q = bd
      · subst hqb
        have heq : ((q : Int) == (q : Int)) = true := by simp
        have HSS : Hid (pkTo l q gs (q + 1) = (B, O)) := by
          show _ = _
          rw [HSTP.out]
          split
          · unfold stepP; rw [if_neg (fun h => h.1 rfl)]
          · rfl
        clear hAw HIS
        go_wp2_with fail
        go_roundw
        case rel => exact ⟨q + 1, by omega, by go_num, by rw [HSS.out], by rw [HSS.out], HBW.out⟩
        case measure => simp [intOf]; omega
      · have heq : ((q : Int) == (bd : Int)) = false := by simp; omega
        clear hAw
        go_wp2_with fail
        refine HIS.out.mono ?_
        rintro e w3 ⟨rfl, hb3⟩
        have HB3 := Lib.hid (HBW.out.trans (hb3.mono HBW.out.size))
        clear hb3 HIS
        cases hs : sus l bd gs q with
        | false =>
          have HSS : Hid (pkTo l bd gs (q + 1) = (B, O)) := by show _ = _; rw [HSTP.out, hs]; rfl
          clear hs
          go_wp2_with fail
          go_roundw
          case rel => exact ⟨q + 1, by omega, by go_num, by rw [HSS.out], by rw [HSS.out], HB3.out⟩
          case measure => simp [intOf]; omega
        | true =>
          have HSS : Hid (pkTo l bd gs (q + 1) = stepP l bd gs (B, O) q) := by show _ = _; rw [HSTP.out, hs]; rfl
          clear hs
          obtain ⟨wo, rfl⟩ : ∃ wo : World, wo = w3 := ⟨_, rfl⟩
          go_wp2_with fail
          go_loopw [10, 11, 12] (rprRel w l bd gs n q) (fun _ _ i _ => n - (intOf i).toNat)
          case atStart => exact ⟨0, Nat.zero_le _, rfl, rfl, rfl, HB3.out⟩
          case round =>
            obtain ⟨k, hk, rfl, rfl, rfl, hbw⟩ := hrel
            have HBW4 := Lib.hid hbw
            have hAw := HA.out.below hbw
            have hP1 := part_le l bd gs q k
            have hR1 := rest_le l bd gs q k
            have hps := part_succ l bd gs q k
            have hrs := rest_succ l bd gs q k
            obtain ⟨P, hP⟩ : ∃ P, part l bd gs q k = P := ⟨_, rfl⟩
            obtain ⟨R, hR⟩ : ∃ R, rest l bd gs q k = R := ⟨_, rfl⟩
            rw [hP] at hP1 hps ⊢
            rw [hR] at hR1 hrs ⊢
            have HP := Lib.hid hP; have HR := Lib.hid hR; have HPS := Lib.hid hps; have HRS := Lib.hid hrs
            clear hbw hP hR hps hrs
            by_cases hkn : k < n
            · have HIS := Lib.hid (issus_any (c := c) (c2 := c2) hAw hkn hbd hn2)
              clear hAw
              go_wp2_with fail
              refine HIS.out.mono ?_
              rintro e w5 ⟨rfl, hb5⟩
              have HB5 := Lib.hid (HBW4.out.trans (hb5.mono HBW4.out.size))
              clear hb5 HIS
              cases hs : sus l bd gs k with
              | false =>
                have HP2 : Hid (part l bd gs q (k + 1) = P) := by show _ = _; rw [HPS.out, hs]; rfl
                have HR2 : Hid (rest l bd gs q (k + 1) = R) := by show _ = _; rw [HRS.out, hs]; rfl
                clear hs
                go_wp2_with fail
                go_roundw
                case rel => exact ⟨k + 1, by omega, by go_num, by rw [HP2.out], by rw [HR2.out], HB5.out⟩
                case measure => simp [intOf]; omega
              | true =>
                have HHQ := Lib.hid ((HA.out.below HB5.out).hangs (c := c) hlt hkn)
                have HPS2 : Hid (part l bd gs q (k + 1) = P + if hangs l q k then 1 else 0) := by show _ = _; rw [HPS.out, hs, Bool.true_and]
                have HRS2 : Hid (rest l bd gs q (k + 1) = R + if !hangs l q k then 1 else 0) := by show _ = _; rw [HRS.out, hs, Bool.true_and]
                clear hs
                go_wp2_with fail
                refine HHQ.out.mono ?_
                rintro e w6 ⟨rfl, hb6⟩
                have HB6 := Lib.hid (HB5.out.trans (hb6.mono HB5.out.size))
                clear hb6 HHQ
                cases hh : hangs l q k with
                | true =>
                  rw [hh] at HPS2 HRS2
                  clear hh
                  go_wp2_with fail
                  go_roundw
                  case rel => exact ⟨k + 1, by omega, by go_num, by rw [HPS2.out]; go_num, by rw [HRS2.out]; go_num, HB6.out⟩
                  case measure => simp [intOf]; omega
                | false =>
                  rw [hh] at HPS2 HRS2
                  clear hh
                  go_wp2_with fail
                  go_roundw
                  case rel => exact ⟨k + 1, by omega, by go_num, by rw [HPS2.out]; go_num, by rw [HRS2.out]; go_num, HB6.out⟩
                  case measure => simp [intOf]; omega
            · obtain rfl : k = n := by omega
              have hhf : half l bd gs q = min P R := by unfold half; rw [HA.out.len, HP.out, HR.out]
              obtain ⟨hf, hhf2⟩ : ∃ hf, half l bd gs q = hf := ⟨_, rfl⟩
              rw [hhf2] at hhf
              have hcs : (R < P ∧ hf = R) ∨ (¬ R < P ∧ hf = P) := by omega
              have HHF := Lib.hid hhf2
              clear hAw hhf hhf2
              rcases hcs with ⟨hrt, rfl⟩ | ⟨hrt, rfl⟩
              all_goals
                by_cases hbf : B < ((half l bd gs q : Nat) : Int)
                · have HSS2 : Hid (pkTo l bd gs (q + 1) = (((half l bd gs q : Nat) : Int), (q : Int))) := by show _ = _; rw [HSS.out]; unfold stepP; rw [if_pos ⟨hqb, hbf⟩]
                  rw [HHF.out] at hbf HSS2
                  go_wp2_with fail
                  go_roundw
                  case rel => exact ⟨q + 1, by omega, by go_num, by rw [HSS2.out], by rw [HSS2.out], HBW4.out⟩
                  case measure => simp [intOf]; omega
                · have HSS2 : Hid (pkTo l bd gs (q + 1) = (B, O)) := by show _ = _; rw [HSS.out]; unfold stepP; rw [if_neg (fun h => hbf h.2)]
                  rw [HHF.out] at hbf
                  go_wp2_with fail
                  go_roundw
                  case rel => exact ⟨q + 1, by omega, by go_num, by rw [HSS2.out], by rw [HSS2.out], HBW4.out⟩
                  case measure => simp [intOf]; omega
    · obtain rfl : q = n := by omega
      clear hAw
      go_wp2_with fail
      go_ret
      exact ⟨by rw [← HPE.out]; rfl, HBW.out⟩
end Go.Proofs.Ytfdpannanpipdaa.hunt
