/- The rank of all that stand in pairs, walked. -/
import Derived.Test.YtimlhjjdaggiiaaRankA
import Derived.Test.YtimlhjjdaggiiaaMapMore
set_option linter.unusedVariables false
set_option linter.unusedSimpArgs false
namespace Go.Proofs.Ytimlhjjdaggiiaa.rank
open Go.Bk Go.RowKit Go.Proofs.Ytimlhjjdaggiiaa.ring

def rankErr (l : List Api.DPair) : Int := if 200 < l.length then 2 else 0
def rankRes (l : List Api.DPair) : List Int × Bool := if 200 < l.length then ([], false) else rankOf l
def RankPost3 (w : World) (R : List Int × Bool) (E : Int) (e : Ending) (w' : World) : Prop :=
  ∃ a' c', e = .returned (.tuple #[.slice a' R.1.length c', .bool R.2, .int .i64 E]) ∧ Arr (fun b => w.heap.size ≤ b ∧ b < w'.heap.size) w' a' R.1 ∧ Below w.heap.size w w'
def headRel (w : World) (l : List Api.DPair) (n : Nat) (i : Value) (w' : World) : Prop :=
  ∃ k : Nat, k ≤ n ∧ i = .int .i64 k ∧ Vars w' w.heap.size (2 * k) (gmap l k) ∧ Below w.heap.size w w'
def roundRel (w : World) (l : List Api.DPair) (R : List Int × Bool) (v : Value) (w' : World) : Prop :=
  ∃ out, RankAt l R out ∧ Own (fun _ => False) w' (w.heap.size + 1) 3 v out ∧ Vars w' w.heap.size (400 + 200 * out.length) (fmap l out) ∧ Below w.heap.size w w'
def leastRel (w : World) (m : Nat) (out : List Int) (f : Int → Option Int) (r : Nat) (v : Value) (wo : World) (least some' : Value) (w' : World) : Prop :=
  ∃ (o : Option Int) (left : Int → Bool) (cnt : Nat), least = .int .i64 (o.getD 0) ∧ some' = .bool o.isSome ∧ IsBest o (fun x => f x = some 0 ∧ left x = false) ∧ (∀ x, o = some x → I64 x) ∧
    IRng Try.prog 3 3 w' w.heap.size r (400 + 200 * m) f left cnt ∧ Own (fun _ => False) w' (w.heap.size + 1) 3 v out ∧ Below w.heap.size w w' ∧ w'.heap.size = wo.heap.size
def decRel (w : World) (l : List Api.DPair) (out : List Int) (m : Nat) (b : Int) (n : Nat) (v i : Value) (w' : World) : Prop :=
  ∃ k : Nat, k ≤ n ∧ i = .int .i64 k ∧ Own (fun _ => False) w' (w.heap.size + 1) 3 v (out ++ [b]) ∧ Vars w' w.heap.size (400 + 200 * m + k) (hmap l out b k) ∧ Below w.heap.size w w'

set_option maxRecDepth 100000 in
set_option maxHeartbeats 4000000 in
theorem rank_any {S : Nat → Prop} {w : World} {a : Option Addr} {c n : Nat} {l : List Api.DPair} (hn : l.length = n) (h : Arr S w a l) (hS : ∀ b, S b → b < w.heap.size) :
    Calls Try.prog 39 #[.slice a n c] w (RankPost3 w (rankRes l) (rankErr l)) := by
  have hm := h.small
  rw [hn] at hm
  unfold maxLen at hm
  have HN := Lib.hid hn
  have HA : Hid (∀ w', Below w.heap.size w w' → Arr S w' a l) := fun w' hb => h.keep (fun b hb' => hb.block b (hS b hb'))
  clear hn h hS
  by_cases hl : 200 < n
  · have hd : decide (200 < (n : Int)) = true := decide_eq_true (by omega)
    have HE : Hid (rankErr l = 2) := by show _ = _; unfold rankErr; rw [if_pos (by rw [HN.out]; exact hl)]
    have HR : Hid (rankRes l = ([], false)) := by show _ = _; unfold rankRes; rw [if_pos (by rw [HN.out]; exact hl)]
    go_enter Try.func39, Try.ntmps39
    go_wp2
    go_ret3
    rw [HE.out, HR.out]
    exact ⟨none, 0, rfl, Arr.nil _ _ _, Below.refl _ _⟩
  have hd : decide (200 < (n : Int)) = false := decide_eq_false (by omega)
  have HE : Hid (rankErr l = 0) := by show _ = _; unfold rankErr; rw [if_neg (by rw [HN.out]; exact hl)]
  obtain ⟨R, hR⟩ : ∃ R, R = rankOf l := ⟨_, rfl⟩
  have HRR : Hid (rankRes l = R) := by show _ = _; unfold rankRes; rw [if_neg (by rw [HN.out]; exact hl), hR]
  have HR0 : Hid (RankAt l R []) := by rw [hR]; exact RankAt.zero l
  clear hR
  go_enter Try.func39, Try.ntmps39
  have hmm := @run_makeMap Try.prog
  go_wp2_with fail
  clear hmm
  have HM0 : Hid (Vars (w.alloc (.map #[] 0)) w.heap.size 0 (gmap l 0)) := IMap.made _ _ _ _
  go_loopw [21] (headRel w l n) (fun i _ => n - (intOf i).toNat)
  case atStart => exact ⟨0, Nat.zero_le _, rfl, HM0.out, (Below.refl _ _).alloc (Nat.le_refl _) _⟩
  case round =>
    obtain ⟨k, hk, rfl, hv, hb⟩ := hrel
    have HV := Lib.hid hv; have HB := Lib.hid hb
    clear hv hb HM0
    by_cases hlt : k < n
    · obtain ⟨p, hp⟩ : ∃ p, l[k]? = some p := ⟨_, List.getElem?_eq_getElem (by have := HN.out; omega)⟩
      obtain ⟨b1, o1, rfl, -, q1, q2, i1, i2⟩ := api_DPair_elem (HA.out _ HB.out) hp
      have HGS := Lib.hid (gmap_succ hp)
      clear hp
      have hcI := cntJ_le l k p.I
      have GI : Hid ((gmap l k p.I).getD 0 = (cntJ l k p.I : Int)) := gmap_getD l k p.I
      obtain ⟨cI, hcI'⟩ : ∃ cI, cI = cntJ l k p.I := ⟨_, rfl⟩
      rw [← hcI'] at hcI GI
      have HCI := Lib.hid hcI'
      have hJ : Hid (∃ cJ : Nat, cJ ≤ 201 ∧ ((fun m => if m = p.I then some (cI : Int) else gmap l k m) p.J).getD 0 = (cJ : Int)) := by
        have := cntJ_le l k p.J
        dsimp only
        by_cases e : p.J = p.I
        · exact ⟨cI, by omega, by rw [if_pos e]; rfl⟩
        · exact ⟨cntJ l k p.J, by omega, by rw [if_neg e]; exact gmap_getD l k p.J⟩
      obtain ⟨cJ, hcJ, hGJ⟩ := hJ.out
      have GJ := Lib.hid hGJ
      clear hcI' hJ hGJ
      have w0 : IntKind.i64.wrap ((cI : Int) + 0) = (cI : Int) := by rw [IntWalk.i64_in _ (by omega)]; omega
      have w0' : IntKind.i64.wrap (cI : Int) = (cI : Int) := IntWalk.i64_in _ (by omega)
      have w1 : IntKind.i64.wrap ((cJ : Int) + 1) = (cJ : Int) + 1 := IntWalk.i64_in _ (by omega)
      have iI : I64 (cI : Int) := by unfold I64; omega
      have iJ : I64 ((cJ : Int) + 1) := by unfold I64; omega
      have HVB : Hid (Vars (wr.alloc (.cells #[.int .i64 p.I, .int .i64 p.J] 169)) w.heap.size (2 * k) (gmap l k)) := HV.out.boxed _
      have HBB : Hid (Below w.heap.size w (wr.alloc (.cells #[.int .i64 p.I, .int .i64 p.J] 169))) := HB.out.alloc HB.out.size _
      have hg1 := HV.out.lt
      have cb0 : (wr.alloc (.cells #[.int .i64 p.I, .int .i64 p.J] 169)).cell? ⟨wr.heap.size, 1, none⟩ = some (.int .i64 p.J) := (blk_new wr [.int .i64 p.I, .int .i64 p.J] 169).cell rfl
      go_wp2_with (first
        | (with_reducible refine wp_imap_get rfl rfl under_int under_int under_map (zero_int _) rfl HVB.out rfl i1 ?_; rw [GI.out])
        | ((with_reducible refine wp_imap_put rfl rfl under_int under_int under_map rfl HVB.out (by omega) rfl rfl i1 iI fun w' hm' hg' => ?_); have HM1 := Lib.hid hm'; have HBW := Lib.hid (below_map HBB.out hg' (Nat.le_refl _)); have cb1 : w'.cell? ⟨wr.heap.size, 1, none⟩ = some (.int .i64 p.J) := (World.cell?_of_block (hg'.block wr.heap.size (by simp) (by intro e; injection e with e; omega))).trans cb0; clear hm' hg')
        | (with_reducible refine wp_imap_get rfl rfl under_int under_int under_map (zero_int _) rfl HM1.out rfl i2 ?_; rw [GJ.out])
        | ((with_reducible refine wp_imap_put rfl rfl under_int under_int under_map rfl HM1.out (by omega) rfl rfl i2 iJ fun w'' hm'' hg'' => ?_); have HM2 := Lib.hid hm''; have HBW2 := Lib.hid (below_map HBW.out hg'' (Nat.le_refl _)); clear hm'' hg''))
      go_roundw
      case rel => exact ⟨k + 1, by omega, by go_num, IMap.mono (HM2.out.congr (fun m => by rw [HGS.out m, ← HCI.out, GJ.out])) (by omega), HBW2.out⟩
      case measure => simp [intOf]; omega
    · obtain rfl : k = n := by omega
      have HV0 : Hid (Vars wr w.heap.size (400 + 200 * ([] : List Int).length) (fmap l [])) := by
        have := (HV.out.mono (m := 400 + 200 * ([] : List Int).length) (by simp; omega)).congr (f' := fmap l []) (fun m => by rw [← fmap_start, HN.out])
        exact this
      have hg1 := HV.out.lt
      go_wp2_with fail
      go_loopw [8] (roundRel w l R) (fun v _ => 1000 - lenV v)
      case atStart => exact ⟨[], HR0.out, Own.nil _ _ _ _, HV0.out, HB.out⟩
      case round =>
        obtain ⟨out, hra, hown, hv, hb⟩ := hrel
        have HRA := Lib.hid hra; have HO := Lib.hid hown; have HV1 := Lib.hid hv; have HB1 := Lib.hid hb
        have hol : out.length ≤ 400 := by
          have h1 := hra.1.len
          have h2 := namesTo_len l l.length
          have h3 := HN.out
          unfold names at h1
          omega
        obtain ⟨a8, c8, rfl, -, -, hw8⟩ := hown.arr
        have HW8 := Lib.hid hw8
        obtain ⟨m, hm⟩ : ∃ m, m = out.length := ⟨_, rfl⟩
        rw [← hm] at hol HO HV1 ⊢
        have HM : Hid (out.length = m) := hm.symm
        have hg8 := hv.lt
        have hb8 := hb.size
        clear hra hown hv hb hw8 hm hg1 HV HV0
        have hI0 : ∀ wz : World, Rep.cells (α := Int) (fun _ => False) wz [.int .i64 0] 0 := fun _ => ⟨rfl, by unfold I64; omega⟩
        go_wp2_with (first
          | ((with_reducible refine wp_imap_len rfl rfl under_int under_map rfl HV1.out fun s hs => ?_); have HS := Lib.hid hs; clear hs; rcases Nat.eq_zero_or_pos s with rfl | hs0)
          | ((with_reducible refine wp_imap_range rfl rfl under_int under_map rfl HV1.out fun w1 cnt1 hr1 hg1 hsz1 => ?_); have HR1 := Lib.hid hr1; have HG1 := Lib.hid hg1; have HSZ1 := Lib.hid hsz1; clear hr1 hg1 hsz1))
        · have HLE : Hid (out.length = (names l).length) := by
            show _ = _
            rcases Nat.lt_or_ge out.length (names l).length with h1 | h1
            · obtain ⟨x, hx⟩ := fmap_some HRA.out.1 h1
              rw [HS.out.1 (by simp) x] at hx
              cases hx
            · have := HRA.out.1.len
              omega
          have HRE := Lib.hid (HRA.out.done HLE.out)
          go_ret3
          rw [HRR.out, HE.out, HRE.out]
          exact ⟨a8, c8, by rw [HM.out]; rfl, HW8.out.mono (fun b hb => by have := hb.resolve_left id; exact ⟨by omega, this.2⟩), HB1.out⟩
        · have HLE : Hid (out.length < (names l).length) := by
            show _ < _
            refine Classical.byContradiction fun h1 => absurd (HS.out.2 fun x => fmap_none HRA.out.1 ?_ x) (by omega)
            have := HRA.out.1.len
            omega
          obtain ⟨r, hr⟩ : ∃ r, r = wr.heap.size := ⟨_, rfl⟩
          have HVR : Hid ((Value.slice a8 m c8).ownBlock ≠ some r) := by
            show _ ≠ _
            intro e
            have := (HO.out.lt _ e).2
            omega
          have HB2 : Hid (Below w.heap.size w w1) := HB1.out.grown HG1.out hb8 (fun r hr => by cases hr)
          have HO1 : Hid (Own (fun _ => False) w1 (w.heap.size + 1) 3 (.slice a8 m c8) out) := HO.out.keep HG1.out (by cases hv : Value.ownBlock _ <;> simp) (fun b hb => hb.elim)
          rw [← hr] at HR1 HSZ1 ⊢
          have hgr : w.heap.size < r := by omega
          clear HG1 hr HO HB1 HW8 hg8 hb8 HV1 HS
          go_simp
          go_loopw [9, 10] (leastRel w m out (fmap l out) r (.slice a8 m c8) w1) (fun _ _ wz => wz.rangeLeft w.heap.size r)
          case atStart => exact ⟨none, _, _, rfl, rfl, .inl ⟨rfl, fun x hx => by have h2 := hx.2; rw [show fmap l out x = some 0 from hx.1] at h2; cases h2⟩, fun x hx => (by cases hx), HR1.out, HO1.out, HB2.out, rfl⟩
          case round =>
            obtain ⟨o, left, cnt, rfl, rfl, hbest, ho64, hrng, hown, hb, hsz⟩ := hrel
            have HBEST := Lib.hid hbest; have HO64 := Lib.hid ho64; have HRNG := Lib.hid hrng; have HO2 := Lib.hid hown; have HB3 := Lib.hid hb
            have hle := hrng.left_eq
            have HLE2 := Lib.hid hle
            have hbs := hb.size
            have hlow : w.heap.size + 2 ≤ wr.heap.size := by rw [hsz, HSZ1.out]; omega
            have HSZR := Lib.hid hsz
            clear hsz
            clear hbest ho64 hrng hown hb HR1 HO1 HB2 hle
            have hlo : Hid (out.length + 1 ≤ 401) := by show _ ≤ _; rw [HM.out]; omega
            go_wp2_with (first
              | ((with_reducible refine wp_imap_next rfl rfl under_int under_int rfl HRNG.out (fun hdone => ?done) fun x c w2 cnt2 hx hc hlx hfx hrng2 hlt2 hgr2 hsz2 hen => ?more); (case' done => (have HD := Lib.hid hdone; clear hdone; rcases o with _ | y)); (case' more => (have HEN := Lib.hid hen; have HR2 := Lib.hid hrng2; have HLX := Lib.hid hlx; have HFX := Lib.hid hfx; have HG2 := Lib.hid hgr2; have HSZ2 := Lib.hid hsz2; have HLT2 := Lib.hid hlt2; clear hen hrng2 hlx hfx hgr2 hsz2 hlt2)))
              | ((at_builtin; with_reducible refine Try.wp_app22 rfl rfl rfl rfl rfl (by first | rfl | simp) (HO2.out) (int_cells (HO64.out _ rfl) _ _) (fun _ h => h.elim) (by (rw [HM.out]; omega)) (by first | omega | (simp; omega)) fun v' w' hown' hg' => ?_); have HO' := Lib.hid hown'; have HG := Lib.hid hg'; have HBW := Lib.hid (HB3.out.grown hg' hbs (fun r hr => by have := (HO2.out.lt r hr).1; omega)); clear hown' hg'; have HV' := Lib.hid (HRNG.out.map.kept HG.out (fun e => by have := (HO2.out.lt _ e.symm).1; omega)))
              | ((with_reducible refine wp_imap_del rfl rfl under_int under_map rfl HV'.out rfl (HO64.out _ rfl) fun w5 hm5 hg5 => ?_); have HM5 := Lib.hid hm5; have HG5 := Lib.hid hg5; clear hm5 hg5))
            · rw [HEN.out]
              have HO3 : Hid (Own (fun _ => False) w2 (w.heap.size + 1) 3 (.slice a8 m c8) out) := HO2.out.keep HG2.out (.inr HVR.out) (fun b hb => hb.elim)
              have HB4 : Hid (Below w.heap.size w w2) := HB3.out.grown HG2.out hbs (fun r' hr' => by injection hr' with hr'; omega)
              have HSZ3 : Hid (w2.heap.size = w1.heap.size) := HSZ2.out.trans HSZR.out
              have HML : Hid (w2.rangeLeft w.heap.size r < cnt) := by show _ < _; rw [HR2.out.left_eq]; exact HLT2.out
              by_cases hc0 : c = 0
              · have hd0 : (c == 0) = true := by simpa using hc0
                have HBN : Hid (IsBest (pick o x) (fun z => fmap l out z = some 0 ∧ (left z && !decide (z = x)) = false)) := (HBEST.out.pick x).congr fun z => by
                  have h1 := HFX.out
                  rw [hc0] at h1
                  by_cases e : z = x
                  · subst e; simp [h1]
                  · simp [e]
                clear hc0
                rcases o with _ | y
                · have HBN2 : Hid (IsBest (some x) (fun z => fmap l out z = some 0 ∧ (left z && !decide (z = x)) = false)) := HBN.out
                  clear HBN
                  go_wp2_with fail
                  go_roundw
                  case rel => exact ⟨some x, _, _, rfl, rfl, HBN2.out, fun z hz => (by cases hz; exact hx), HR2.out, HO3.out, HB4.out, HSZ3.out⟩
                  case measure => rw [HLE2.out]; exact HML.out
                · by_cases hxy : x < y
                  · have hdx : decide (x < y) = true := decide_eq_true hxy
                    have HBN2 : Hid (IsBest (some x) (fun z => fmap l out z = some 0 ∧ (left z && !decide (z = x)) = false)) := by have := HBN.out; rw [pick, if_pos hxy] at this; exact this
                    clear HBN
                    go_wp2_with fail
                    go_roundw
                    case rel => exact ⟨some x, _, _, rfl, rfl, HBN2.out, fun z hz => (by cases hz; exact hx), HR2.out, HO3.out, HB4.out, HSZ3.out⟩
                    case measure => rw [HLE2.out]; exact HML.out
                  · have hdx : decide (x < y) = false := decide_eq_false hxy
                    have HBN2 : Hid (IsBest (some y) (fun z => fmap l out z = some 0 ∧ (left z && !decide (z = x)) = false)) := by have := HBN.out; rw [pick, if_neg hxy] at this; exact this
                    clear HBN
                    go_wp2_with fail
                    go_roundw
                    case rel => exact ⟨some y, _, _, rfl, rfl, HBN2.out, HO64.out, HR2.out, HO3.out, HB4.out, HSZ3.out⟩
                    case measure => rw [HLE2.out]; exact HML.out
              · have hd0 : (c == 0) = false := by simpa using hc0
                have HBN : Hid (IsBest o (fun z => fmap l out z = some 0 ∧ (left z && !decide (z = x)) = false)) := HBEST.out.congr fun z => by
                  have h1 := HFX.out
                  by_cases e : z = x
                  · subst e; simp [h1, hc0]
                  · simp [e]
                clear hc0
                go_wp2_with fail
                go_roundw
                case rel => exact ⟨o, _, _, rfl, rfl, HBN.out, HO64.out, HR2.out, HO3.out, HB4.out, HSZ3.out⟩
                case measure => rw [HLE2.out]; exact HML.out
            · have HBE : Hid (best l out = none) := IsBest.unique (best_is l out) (HBEST.out.congr fun z => by rw [fmap_free]; simp [HD.out z])
              have HRE := Lib.hid (HRA.out.none HLE.out HBE.out)
              go_ret3
              rw [HRR.out, HE.out, HRE.out]
              exact ⟨none, 0, rfl, Arr.nil _ _ _, HB3.out⟩
            · have HBE : Hid (best l out = some y) := IsBest.unique (best_is l out) (HBEST.out.congr fun z => by rw [fmap_free]; simp [HD.out z])
              have HRS := Lib.hid (HRA.out.some HLE.out HBE.out)
              have HST := Lib.hid (HRA.out.1.step HBE.out)
              have HV6 : Hid (Vars w5 w.heap.size (400 + 200 * m + 0) (hmap l out y 0)) := HM5.out.congr (fun z => hmap_start l out y z)
              have HB5 : Hid (Below w.heap.size w w5) := below_map HBW.out HG5.out (Nat.le_refl _)
              have HO6 : Hid (Own (fun _ => False) w5 (w.heap.size + 1) 3 v' (out ++ [y])) := HO'.out.keep HG5.out (.inr (fun e => by have := (HO'.out.lt _ e).1; omega)) (fun b hb => hb.elim)
              have hl5 := HV6.out.lt
              clear HM5 HG5 HBW HG HO' HV' HRNG HO2 HB3 HBEST
              go_loopw [68] (decRel w l out m y k v') (fun i _ => k - (intOf i).toNat)
              case atStart => exact ⟨0, Nat.zero_le _, rfl, HO6.out, HV6.out, HB5.out⟩
              case round =>
                obtain ⟨j, hj, rfl, hown, hv, hb⟩ := hrel
                have HO := Lib.hid hown; have HV := Lib.hid hv; have HB6 := Lib.hid hb
                have hg6 := hv.lt
                have hb6 := hb.size
                clear hown hv hb HO6 HV6 HB5 hl5
                by_cases hjk : j < k
                · obtain ⟨p, hp⟩ : ∃ p, l[j]? = some p := ⟨_, List.getElem?_eq_getElem (by have := HN.out; omega)⟩
                  obtain ⟨b1, o1, rfl, -, q1, q2, i1, i2⟩ := api_DPair_elem (HA.out _ HB6.out) hp
                  have HP := Lib.hid hp
                  clear hp
                  have HVB : Hid (Vars (wr.alloc (.cells #[.int .i64 p.I, .int .i64 p.J] 169)) w.heap.size (400 + 200 * m + j) (hmap l out y j)) := HV.out.boxed _
                  have HBB : Hid (Below w.heap.size w (wr.alloc (.cells #[.int .i64 p.I, .int .i64 p.J] 169))) := HB6.out.alloc HB6.out.size _
                  have HOB : Hid (Own (fun _ => False) (wr.alloc (.cells #[.int .i64 p.I, .int .i64 p.J] 169)) (w.heap.size + 1) 3 v' (out ++ [y])) := HO.out.alloc _ (fun b hb => hb.elim)
                  by_cases hpy : p.I = y
                  · have hd6 : (p.I == y) = true := by simpa using hpy
                    have HHS := Lib.hid (fun z => hmap_step HRA.out.1 HST.out.2.2.1 HST.out.2.2.2 HP.out hpy z)
                    have hsm := hmap_small (l := l) (out := out) (b := y) (k := j) (by rw [HN.out]; omega) (by omega) p.J
                    obtain ⟨g, hg⟩ : ∃ g, g = (hmap l out y j p.J).getD 0 := ⟨_, rfl⟩
                    rw [← hg] at hsm
                    have HG9 : Hid ((hmap l out y j p.J).getD 0 = g) := hg.symm
                    have i9 : I64 (g - 1) := by unfold I64; omega
                    clear hg hpy
                    go_wp2_with (first
                      | (with_reducible refine wp_imap_get rfl rfl under_int under_int under_map (zero_int _) rfl HVB.out rfl i2 ?_; rw [HG9.out])
                      | ((with_reducible refine wp_imap_put rfl rfl under_int under_int under_map rfl HVB.out (by omega) rfl rfl i2 i9 fun w' hm' hg' => ?_); have HM' := Lib.hid hm'; have HG' := Lib.hid hg'; clear hm' hg'))
                    go_roundw
                    case rel => exact ⟨j + 1, by omega, by go_num, HOB.out.keep HG'.out (.inr (fun e => by have := (HOB.out.lt _ e).1; omega)) (fun b hb => hb.elim), HM'.out.congr (fun z => by rw [← HHS.out z, HG9.out]), below_map HBB.out HG'.out (Nat.le_refl _)⟩
                    case measure => simp [intOf]; omega
                  · have hd6 : (p.I == y) = false := by simpa using hpy
                    have HHS := Lib.hid (fun z => hmap_skip (out := out) HP.out hpy z)
                    clear hpy
                    go_wp2_with fail
                    go_roundw
                    case rel => exact ⟨j + 1, by omega, by go_num, HOB.out, IMap.mono (HVB.out.congr HHS.out) (by omega), HBB.out⟩
                    case measure => simp [intOf]; omega
                · obtain rfl : j = k := by omega
                  go_wp2_with fail
                  go_roundw
                  case rel => exact ⟨out ++ [y], HRS.out, HO.out, IMap.mono (HV.out.congr (fun z => by rw [← HN.out]; exact hmap_end HST.out.2.2.1 z)) (by rw [List.length_append, HM.out]; simp; omega), HB6.out⟩
                  case measure =>
                    obtain ⟨a7, c7, rfl, -, -, -⟩ := HO.out.arr
                    simp [lenV, HM.out] <;> omega
end Go.Proofs.Ytimlhjjdaggiiaa.rank
