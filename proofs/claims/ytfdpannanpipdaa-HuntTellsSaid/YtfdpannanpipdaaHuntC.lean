/- HuntTells: who is asked, and who is picked: walked. -/
import Derived.Test.YtfdpannanpipdaaHuntB
set_option linter.unusedVariables false
set_option linter.unusedSimpArgs false
namespace Go.Proofs.Ytfdpannanpipdaa.hunt
open Go.Bk Go.RowKit slice

theorem good_nat {l : List Api.DDep} {good : List Int} (h : good.all (inLen l) = true) : good = (good.map Int.toNat).map Int.ofNat ∧ ∀ g ∈ good.map Int.toNat, g < l.length := by
  have h0 : ∀ x ∈ good, 0 ≤ x ∧ x < l.length := fun x hx => by
    have := List.all_eq_true.1 h x hx
    unfold inLen at this
    simpa using this
  constructor
  · rw [List.map_map]
    conv => lhs; rw [← List.map_id good]
    refine List.map_congr_left fun x hx => ?_
    have := h0 x hx
    show x = ((x.toNat : Nat) : Int)
    omega
  · intro g hg
    obtain ⟨x, hx, rfl⟩ := List.mem_map.1 hg
    have := h0 x hx
    omega
open Classical in
noncomputable def huntErr (l : List Api.DDep) (bad : Int) (good : List Int) : Int := if errOf l (bad :: good) ≠ 0 then errOf l (bad :: good) else if sus l bad.toNat (good.map Int.toNat) bad.toNat = true then 0 else 8
theorem huntErr_bad {l : List Api.DDep} {bad : Int} {good : List Int} (h : errOf l (bad :: good) ≠ 0) : huntErr l bad good = errOf l (bad :: good) := if_pos h
theorem huntErr_sus {l : List Api.DDep} {bad : Int} {good : List Int} (h : errOf l (bad :: good) = 0) : huntErr l bad good = if sus l bad.toNat (good.map Int.toNat) bad.toNat = true then 0 else 8 := by
  unfold huntErr; rw [if_neg (by simpa using h)]
/-- What a good question is. -/
structure Asked (l : List Api.DDep) (bad : Int) (good : List Int) (bd : Nat) (gs : List Nat) : Prop where
  len : l.length ≤ 200
  valid : Valid l
  bad : bad = bd
  good : good = gs.map Int.ofNat
  lt : bd < l.length
  all : ∀ g ∈ gs, g < l.length
theorem asked_of {l : List Api.DDep} {bad : Int} {good : List Int} (h : errOf l (bad :: good) = 0) : Asked l bad good bad.toNat (good.map Int.toNat) := by
  obtain ⟨h1, h2, h3⟩ := errOf_zero h
  rw [List.all_cons, Bool.and_eq_true] at h3
  obtain ⟨h4, h5⟩ := good_nat h3.2
  have h6 := h3.1
  unfold inLen at h6
  simp at h6
  exact ⟨h1, h2, by omega, h4, by omega, h5⟩
def AskPost (l : List Api.DDep) (n : Nat) (E : Int) (bd : Nat) (gs : List Nat) (w : World) (e : Ending) (w' : World) : Prop :=
  Below w.heap.size w w' ∧ ((E ≠ 0 ∧ e = .returned (.tuple #[.pointer none, .slice none 0 0, .int .i64 E])) ∨ (E = 0 ∧ ∃ hp a k c, e = .returned (.tuple #[.pointer (some ⟨hp, 0, none⟩), .slice a k c, .int .i64 0]) ∧ Hunter w' w.heap.size hp l n ∧ Own (fun _ => False) w' w.heap.size 3 (.slice a k c) (susL l bd gs)))

set_option maxRecDepth 100000 in
set_option maxHeartbeats 1000000 in
theorem asked_any {S S2 : Nat → Prop} {w : World} {a a2 : Option Addr} {c c2 n n2 : Nat} {E : Int} {l : List Api.DDep} {bad : Int} {good : List Int} (hn : l.length = n) (hn2 : good.length = n2) (h : Arr S w a l) (h2 : Arr S2 w a2 good) (hS : ∀ b, S b → b < w.heap.size) (hS2 : ∀ b, S2 b → b < w.heap.size) (hb : I64 bad) (hE : huntErr l bad good = E) :
    Calls Try.prog 81 #[.slice a n c, .int .i64 bad, .slice a2 n2 c2] w (AskPost l n E bad.toNat (good.map Int.toNat) w) := by
  obtain ⟨E0, hE0⟩ : ∃ E0, errOf l (bad :: good) = E0 := ⟨_, rfl⟩
  have HB := Lib.hid (begin_any (c := c) (c2 := c2) hn hn2 h h2 hS hS2 hb hE0)
  have HN := Lib.hid hn; have HN2 := Lib.hid hn2
  by_cases h0 : errOf l (bad :: good) = 0
  · have hA := asked_of h0
    have hsus := huntErr_sus h0
    rw [hE] at hsus
    obtain ⟨bd, hbd⟩ : ∃ bd, bad.toNat = bd := ⟨_, rfl⟩
    obtain ⟨gs, hgs⟩ : ∃ gs, good.map Int.toNat = gs := ⟨_, rfl⟩
    rw [hbd, hgs] at hA hsus ⊢
    have hE00 : E0 = 0 := by rw [← hE0, h0]
    subst hE00
    obtain ⟨hl, hv, rfl, rfl, hlt, hall⟩ := hA
    rw [hn] at hl hlt hall
    have HAL := Lib.hid hall; have HSU := Lib.hid hsus
    have HH2 := Lib.hid h2
    rw [List.length_map] at HN2
    clear hbd hgs h0 hE hE0 hsus hall hn hn2 h hv hb h2
    go_enter Try.func81, Try.ntmps81
    go_wp2_with fail
    refine HB.out.mono ?_
    rintro e w1 ⟨hb1, ⟨h0, -⟩ | ⟨-, hp, rfl, hH⟩⟩
    · exact absurd rfl h0
    · have HB1 := Lib.hid hb1; have HHU := Lib.hid hH
      have HS := Lib.hid (suspects_any (c2 := c2) hH HN.out (HH2.out.keep (w' := w1) (fun b hb => hb1.block b (hS2 b hb))) HN2.out (fun b hb => Nat.lt_of_lt_of_le (hS2 b hb) hb1.size) hlt HAL.out hl)
      clear hb1 hH HB
      go_wp2_with fail
      refine HS.out.mono ?_
      rintro e w3 ⟨a3, k3, c3, rfl, ho3, hb3⟩
      have HB3 := Lib.hid (HB1.out.trans (hb3.mono HB1.out.size)); have HHU3 := Lib.hid (HHU.out.below hb3)
      have HO3 := Lib.hid (Own.base ho3 HB1.out.size)
      obtain ⟨harr, hk3, -, -⟩ := num.arr_of_own ho3
      have HC := Lib.hid (has.contains_at (c := c3) (x := (bd : Int)) hk3 harr)
      have hcb : (susL l bd gs).contains (bd : Int) = sus l bd gs bd := filt_contains (by rw [HN.out]; exact hlt)
      rw [hcb] at HC
      clear hb3 ho3 harr hk3 HS hcb
      go_wp2_with fail
      refine HC.out.mono ?_
      rintro e w4 ⟨rfl, rfl⟩
      cases hs : sus l bd gs bd with
      | true =>
        have hE1 : E = 0 := by rw [HSU.out, if_pos hs]
        subst hE1
        clear HC hs
        go_wp2_with fail
        go_ret3
        exact ⟨HB3.out, .inr ⟨rfl, _, _, _, _, rfl, HHU3.out, HO3.out⟩⟩
      | false =>
        have hE1 : E = 8 := by rw [HSU.out, hs, if_neg (by simp)]
        subst hE1
        clear HC hs
        go_wp2_with fail
        go_ret3
        exact ⟨HB3.out, .inl ⟨by omega, rfl⟩⟩
  · have hEE : E0 = E := by rw [← hE0, ← hE, huntErr_bad h0]
    subst hEE
    rw [hE0] at h0
    have hne : (E0 != 0) = true := by simpa using h0
    clear h h2 hE hE0 hn hn2 hb
    go_enter Try.func81, Try.ntmps81
    go_wp2_with fail
    refine HB.out.mono ?_
    rintro e w1 ⟨hb1, ⟨-, rfl⟩ | ⟨h00, -⟩⟩
    · have HB1 := Lib.hid hb1
      clear hb1 HB
      go_wp2_with fail
      go_ret3
      exact ⟨HB1.out, .inl ⟨h0, rfl⟩⟩
    · exact absurd h00 h0

def pickRel (w : World) (l : List Api.DDep) (bd : Nat) (gs : List Nat) (ns : Nat) (b o i : Value) (w' : World) : Prop :=
  ∃ j : Nat, j ≤ ns ∧ i = .int .i64 j ∧ b = .int .i64 (pkF l bd gs ((susL l bd gs).take j)).1 ∧ o = .int .i64 (pkF l bd gs ((susL l bd gs).take j)).2 ∧ w = w'
def partRel (w : World) (s bk : List Int) (m : Nat) (p i : Value) (w' : World) : Prop :=
  ∃ q : Nat, q ≤ m ∧ i = .int .i64 q ∧ p = .int .i64 (((bk.take q).filter fun k => s.contains k).length : Nat) ∧ w = w'

set_option maxRecDepth 100000 in
set_option maxHeartbeats 1000000 in
theorem pick_any {S : Nat → Prop} {w : World} {lo hp n ns c bd : Nat} {a : Option Addr} {l : List Api.DDep} {gs : List Nat} (hH : Hunter w lo hp l n) (hn : l.length = n) (hs : Arr S w a (susL l bd gs)) (hns : (susL l bd gs).length = ns) (hbd : bd < n) (hn200 : n ≤ 200) :
    Calls Try.prog 82 #[.pointer (some ⟨hp, 0, none⟩), .slice a ns c, .int .i64 (bd : Nat)] w fun e w' => e = .returned (.int .i64 (pick l bd gs)) ∧ w = w' := by
  have HN := Lib.hid hn; have HNS := Lib.hid hns
  have hns2 : ns ≤ n := by rw [← hns, ← hn]; exact filt_len _ _
  have HPE := Lib.hid (pick_eq l bd gs)
  obtain ⟨pk, hpk⟩ : ∃ pk, pick l bd gs = pk := ⟨_, rfl⟩
  rw [hpk] at HPE ⊢
  have HC := Lib.hid (fun x => has.contains_at (c := c) (x := x) hns hs)
  have HHU := Lib.hid hH
  clear hn hns hpk hH
  go_enter Try.func82, Try.ntmps82
  go_wp2_with fail
  go_loopw [7, 8, 17] (pickRel w l bd gs ns) (fun _ _ i _ => ns - (intOf i).toNat)
  case atStart => exact ⟨0, Nat.zero_le _, rfl, rfl, rfl, rfl⟩
  case round =>
    obtain ⟨j, hj, rfl, rfl, rfl, rfl⟩ := hrel
    by_cases hlt : j < ns
    · obtain ⟨x, hx⟩ := norm.get_lt HNS.out hlt
      obtain ⟨b, off, rfl, -, q1, -⟩ := arr_int hs hx
      obtain ⟨k, rfl, hk, hsk⟩ := filt_mem.1 (List.mem_of_getElem? hx)
      rw [HN.out] at hk
      obtain ⟨b2, off2, cB, a', c', q2, q3, -, -, ha, -, -⟩ := hunter_row HHU.out hk
      obtain ⟨m, hm⟩ : ∃ m, (backL l k).length = m := ⟨_, rfl⟩
      rw [hm] at q3
      have hm200 : m ≤ 200 := by rw [← hm]; have := filt_len (fun k' => hangs l k k') l.length; have := HN.out; unfold backL; omega
      have HX := Lib.hid hx; have HM := Lib.hid hm
      have hpr := part_rest l bd gs k l.length
      have hhalf : half l bd gs k = min (part l bd gs k l.length) (rest l bd gs k l.length) := rfl
      have hpc := part_count l bd gs k
      rw [show (filt (sus l bd gs) l.length).length = ns from HNS.out] at hpr
      obtain ⟨P, hP⟩ : ∃ P, part l bd gs k l.length = P := ⟨_, rfl⟩
      obtain ⟨R, hR⟩ : ∃ R, rest l bd gs k l.length = R := ⟨_, rfl⟩
      obtain ⟨hf, hhf⟩ : ∃ hf, half l bd gs k = hf := ⟨_, rfl⟩
      rw [hP, hR] at hpr
      rw [hP, hR, hhf] at hhalf
      rw [hP] at hpc
      have HHF := Lib.hid hhf; have HPC := Lib.hid hpc; have HHA := Lib.hid hhalf
      clear hhalf
      have htk : (susL l bd gs).take (j + 1) = (susL l bd gs).take j ++ [(k : Int)] := by rw [List.take_add_one, hx]; rfl
      have hst : pkF l bd gs ((susL l bd gs).take (j + 1)) = stepP l bd gs (pkF l bd gs ((susL l bd gs).take j)) k := by rw [htk, pkF_snoc, Int.toNat_natCast]
      obtain ⟨⟨B, O⟩, hBO⟩ : ∃ st, pkF l bd gs ((susL l bd gs).take j) = st := ⟨_, rfl⟩
      have hrg := pkF_range (l := l) (b := bd) (gs := gs) ((susL l bd gs).take j) (by have := HN.out; omega) (fun x hx => by obtain ⟨k', h1, h2, -⟩ := filt_mem.1 (List.mem_of_mem_take hx); exact ⟨k', h1, h2⟩)
      rw [hBO] at hst hrg ⊢
      rw [HN.out] at hrg
      unfold stepP at hst
      rw [hhf] at hst
      have HST := Lib.hid hst
      have HCk := HC.out
      have HBK := Lib.hid ha
      clear hx hs hm hP hR hhf hpc htk hst hBO ha
      dsimp only at hrg ⊢
      go_wp2_with fail
      go_loopw [11, 29] (partRel w (susL l bd gs) (backL l k) m) (fun _ i _ => m - (intOf i).toNat)
      case atStart => exact ⟨0, Nat.zero_le _, rfl, rfl, rfl⟩
      case round =>
        obtain ⟨q, hq, rfl, rfl, rfl⟩ := hrel
        obtain ⟨T, hT⟩ : ∃ T, (((backL l k).take q).filter fun k => (susL l bd gs).contains k).length = T := ⟨_, rfl⟩
        rw [hT]
        have hTq : T ≤ q := by rw [← hT]; exact Nat.le_trans (List.length_filter_le _ _) (by simp; omega)
        have HT := Lib.hid hT
        clear hT
        by_cases hql : q < m
        · obtain ⟨y, hy⟩ := norm.get_lt HM.out hql
          obtain ⟨b3, off3, rfl, -, q4, -⟩ := arr_int HBK.out hy
          have HCY := Lib.hid (HC.out y)
          have hnx : (((backL l k).take (q + 1)).filter fun k => (susL l bd gs).contains k).length = T + if (susL l bd gs).contains y then 1 else 0 := by
            rw [List.take_add_one, hy, List.filter_append, List.length_append, HT.out, Option.toList_some]
            congr 1
            cases hcy : (susL l bd gs).contains y <;> simp only [List.filter_cons, List.filter_nil, hcy] <;> rfl
          have HNX := Lib.hid hnx
          clear hy hnx
          go_wp2_with fail
          refine HCY.out.mono ?_
          rintro e w3 ⟨rfl, rfl⟩
          cases hcy : (susL l bd gs).contains y with
          | true =>
            rw [hcy] at HNX
            clear HCY hcy
            go_wp2_with fail
            go_roundw
            case rel => exact ⟨q + 1, by omega, by go_num, by rw [HNX.out]; go_num, by first | rfl | trivial⟩
            case measure => simp [intOf]; omega
          | false =>
            rw [hcy] at HNX
            clear HCY hcy
            go_wp2_with fail
            go_roundw
            case rel => exact ⟨q + 1, by omega, by go_num, by rw [HNX.out]; go_num, by first | rfl | trivial⟩
            case measure => simp [intOf]; omega
        · obtain rfl : q = m := by omega
          have hTP : T = P := by rw [← HT.out, ← HM.out, List.take_length, HPC.out]
          subst hTP
          have hw : IntKind.i64.wrap ((ns : Int) - (T : Int)) = (R : Int) := by rw [IntKind.wrap_i64]; omega
          have hf200 : hf ≤ 200 := by have := HHA.out; omega
          have hcs : (R < T ∧ hf = R) ∨ (¬ R < T ∧ hf = T) := by have := HHA.out; omega
          rcases hcs with ⟨hrt, rfl⟩ | ⟨hrt, rfl⟩
          · by_cases hkb : k = bd
            · subst hkb
              have hne : ((k : Int) != (k : Int)) = false := by simp
              have HSS : Hid (pkF l k gs ((susL l k gs).take (j + 1)) = (B, O)) := by show _ = _; rw [HST.out, if_neg (fun h => h.1 rfl)]
              clear HCk
              go_wp2_with fail
              go_roundw
              case rel => exact ⟨j + 1, by omega, by go_num, by rw [HSS.out], by rw [HSS.out], by first | rfl | trivial⟩
              case measure => simp [intOf]; omega
            · have hne : ((k : Int) != (bd : Int)) = true := by simp; omega
              by_cases hbf : B < ((hf : Nat) : Int)
              · have hd : decide (B < ((hf : Nat) : Int)) = true := by simpa using hbf
                have HSS : Hid (pkF l bd gs ((susL l bd gs).take (j + 1)) = (((hf : Nat) : Int), (k : Int))) := by show _ = _; rw [HST.out, if_pos ⟨hkb, hbf⟩]
                clear HCk hkb hbf
                go_wp2_with fail
                go_roundw
                case rel => exact ⟨j + 1, by omega, by go_num, by rw [HSS.out], by rw [HSS.out], by first | rfl | trivial⟩
                case measure => simp [intOf]; omega
              · have hd : decide (B < ((hf : Nat) : Int)) = false := by simpa using hbf
                have HSS : Hid (pkF l bd gs ((susL l bd gs).take (j + 1)) = (B, O)) := by show _ = _; rw [HST.out, if_neg (fun h => hbf h.2)]
                clear HCk hkb hbf
                go_wp2_with fail
                go_roundw
                case rel => exact ⟨j + 1, by omega, by go_num, by rw [HSS.out], by rw [HSS.out], by first | rfl | trivial⟩
                case measure => simp [intOf]; omega

          · by_cases hkb : k = bd
            · subst hkb
              have hne : ((k : Int) != (k : Int)) = false := by simp
              have HSS : Hid (pkF l k gs ((susL l k gs).take (j + 1)) = (B, O)) := by show _ = _; rw [HST.out, if_neg (fun h => h.1 rfl)]
              clear HCk
              go_wp2_with fail
              go_roundw
              case rel => exact ⟨j + 1, by omega, by go_num, by rw [HSS.out], by rw [HSS.out], by first | rfl | trivial⟩
              case measure => simp [intOf]; omega
            · have hne : ((k : Int) != (bd : Int)) = true := by simp; omega
              by_cases hbf : B < ((hf : Nat) : Int)
              · have hd : decide (B < ((hf : Nat) : Int)) = true := by simpa using hbf
                have HSS : Hid (pkF l bd gs ((susL l bd gs).take (j + 1)) = (((hf : Nat) : Int), (k : Int))) := by show _ = _; rw [HST.out, if_pos ⟨hkb, hbf⟩]
                clear HCk hkb hbf
                go_wp2_with fail
                go_roundw
                case rel => exact ⟨j + 1, by omega, by go_num, by rw [HSS.out], by rw [HSS.out], by first | rfl | trivial⟩
                case measure => simp [intOf]; omega
              · have hd : decide (B < ((hf : Nat) : Int)) = false := by simpa using hbf
                have HSS : Hid (pkF l bd gs ((susL l bd gs).take (j + 1)) = (B, O)) := by show _ = _; rw [HST.out, if_neg (fun h => hbf h.2)]
                clear HCk hkb hbf
                go_wp2_with fail
                go_roundw
                case rel => exact ⟨j + 1, by omega, by go_num, by rw [HSS.out], by rw [HSS.out], by first | rfl | trivial⟩
                case measure => simp [intOf]; omega
    · obtain rfl : j = ns := by omega
      have HO : Hid ((pkF l bd gs ((susL l bd gs).take j)).2 = pk) := by show _ = _; rw [← HNS.out, List.take_length, HPE.out]
      go_wp2_with fail
      go_ret
      exact ⟨by rw [← HO.out]; rfl, rfl⟩
end Go.Proofs.Ytfdpannanpipdaa.hunt
