/- HangsOn, walked. -/
import Derived.Test.YtfdpannanpipdaaSliceB
set_option linter.unusedVariables false
set_option linter.unusedSimpArgs false
namespace Go.Proofs.Ytfdpannanpipdaa.slice
open Go.Bk Go.RowKit

def hangRel (w : World) (l : List Api.DDep) (i n : Nat) (k : Value) (w' : World) : Prop :=
  ∃ q : Nat, n ≤ q ∧ (q ≤ i + 1 ∨ q = n) ∧ k = .int .i64 q ∧ Blk w' w.heap.size 4 (boolsV (tabTo l n q)) ∧ Below w.heap.size w w'
def hangUse (w : World) (l : List Api.DDep) (n k : Nat) (us : List Int) (j : Value) (w' : World) : Prop :=
  ∃ q : Nat, q ≤ us.length ∧ j = .int .i64 q ∧ Blk w' w.heap.size 4 (boolsV (hasTo l n k (decide (k = n) || (us.take q).any (useHas l n k)))) ∧ Below w.heap.size w w'

set_option maxRecDepth 100000 in
set_option maxHeartbeats 1000000 in
theorem rhangs_any {S : Nat → Prop} {w : World} {a : Option Addr} {c : Nat} {l : List Api.DDep} {i n : Nat} (h : Arr S w a l) (hS : ∀ b, S b → b < w.heap.size) (hv : Valid l) (hi : i < l.length) (hn : n < l.length) (hlen : l.length ≤ 200) :
    Calls Try.prog 85 #[.slice a l.length c, .int .i64 i, .int .i64 n] w fun e w' => e = .returned (.bool (hangs l i n)) ∧ Below w.heap.size w w' := by
  have HV := Lib.hid hv
  have HT := Lib.hid (tabTo_start hv hn)
  obtain ⟨m, hm⟩ : ∃ n, n = l.length := ⟨_, rfl⟩
  rw [← hm] at hi hn hlen HT; rw [← hm]
  have HM := Lib.hid hm
  clear hm hv
  go_enter Try.func85, Try.ntmps85
  go_wp2_with (with_reducible refine wp_make rfl rfl Try.underlying61 Try.info4 rfl rfl rfl (by omega) (by unfold maxLen; omega) fun w1 hblk hbel hsz => ?_)
  have HK : Hid (Blk w1 w.heap.size 4 (boolsV (tabTo l n n))) := by show Blk _ _ _ _; rw [HT.out]; simpa [boolsV] using hblk
  have HB := Lib.hid hbel
  clear hblk hbel HT
  go_loopw [8] (hangRel w l i n) (fun k _ => i + 1 - (intOf k).toNat)
  case atStart => exact ⟨n, Nat.le_refl _, .inr rfl, rfl, HK.out, HB.out⟩
  case round =>
    obtain ⟨k, hnk, hki, rfl, hblk, hb⟩ := hrel
    have HK2 := Lib.hid hblk; have HB2 := Lib.hid hb
    have hbs := hb.size
    have hgs := hblk.lt
    have h' := h.keep (w' := wr) (fun b hb' => hb.block b (hS b hb'))
    clear hblk hb HK HB
    by_cases hki2 : k ≤ i
    · obtain ⟨d, hd⟩ : ∃ y, l[k]? = some y := ⟨_, List.getElem?_eq_getElem (by have := HM.out; omega)⟩
      have hdk : decide ((k : Int) ≤ i) = true := by simp; omega
      have hkm : k < m := by omega
      have c2 : wr.cell? ⟨w.heap.size, k, none⟩ = some (.bool false) := by
        have := HK2.out
        rw [tabTo_has (by have := HM.out; omega)] at this
        exact this.cell (boolsV_get hasTo_get)
      have c3 : wr.frozen? ⟨w.heap.size, k, none⟩ = false := HK2.out.frozen k
      have HD := Lib.hid hd
      have hus := usesAt_some hd
      clear hd h'
      obtain ⟨wo, rfl⟩ : ∃ wo : World, wo = wr := ⟨_, rfl⟩
      have HK3 : Hid (Blk (wo.setCell ⟨w.heap.size, k, none⟩ (.bool (decide (k = n)))) w.heap.size 4 (boolsV (hasTo l n k (decide (k = n))))) := by
        have := HK2.out
        rw [tabTo_has (by have := HM.out; omega)] at this
        have := this.set k (.bool (decide (k = n)))
        rw [boolsV_set, hasTo_set] at this
        exact this
      have HB3 := Lib.hid (HB2.out.setCell (p := ⟨w.heap.size, k, none⟩) (Nat.le_refl _) (.bool (decide (k = n))))
      have HUS := Lib.hid hus
      clear hus
      have hkn : ((k : Int) == (n : Int)) = decide (k = n) := by rw [Bool.eq_iff_iff]; simp; omega
      clear HK2 HB2
      go_wp2
      clear c3
      generalize wo.setCell ⟨w.heap.size, k, none⟩ (.bool (decide (k = n))) = wp at *
      go_loopw [9] (hangUse w l n k d.Uses) (fun j _ => d.Uses.length - (intOf j).toNat)
      case atStart => exact ⟨0, Nat.zero_le _, rfl, by simpa using HK3.out, HB3.out⟩
      case round =>
        obtain ⟨j, hj, rfl, hblk, hb⟩ := hrel
        have HK2 := Lib.hid hblk; have HB2 := Lib.hid hb
        have hbs := hb.size
        have hgs := hblk.lt
        obtain ⟨b, off, a0, c0, rfl, hSb, q1, hcap, -, hau⟩ := api_DDep_elem (h.keep (w' := wr) (fun b hb' => hb.block b (hS b hb'))) HD.out
        have hmu := hau.small
        unfold maxLen at hmu
        have hbl := hS b hSb
        clear hblk hb HK3 HB3
        by_cases hjl : j < d.Uses.length
        · obtain ⟨u, hu⟩ : ∃ y, d.Uses[j]? = some y := ⟨_, List.getElem?_eq_getElem hjl⟩
          obtain ⟨b2, off2, rfl, hSb2, q2, -⟩ := arr_int hau hu
          have hbl2 := hS b2 hSb2
          have hul := uses_lt HV.out (k := k) (u := u) (by rw [HUS.out]; exact List.mem_of_getElem? hu)
          obtain ⟨v, rfl⟩ : ∃ v : Nat, u = v := ⟨u.toNat, by omega⟩
          have hvk : v < k := by omega
          have HA : Hid ((d.Uses.take (j + 1)).any (useHas l n k) = ((d.Uses.take j).any (useHas l n k) || (decide ((n : Int) ≤ v) && hangs l v n))) := by show _ = _; rw [any_take_succ hu, useHas_eq hvk]
          clear hau hu hul
          generalize (d.Uses.take j).any (useHas l n k) = B at *
          have c4 : wr.cell? ⟨w.heap.size, v, none⟩ = some (.bool (hangs l v n)) := HK2.out.cell (boolsV_get (hasTo_low hvk))
          have c5 : wr.cell? ⟨w.heap.size, k, none⟩ = some (.bool (decide (k = n) || B)) := HK2.out.cell (boolsV_get hasTo_get)
          have f5 : wr.frozen? ⟨w.heap.size, k, none⟩ = false := HK2.out.frozen k
          have hvm : v < m := by omega
          by_cases hnv : (n : Int) ≤ v
          · have hd1 : decide ((n : Int) ≤ v) = true := by simp [hnv]
            rw [hd1, Bool.true_and] at HA
            cases hh : hangs l v n with
            | true =>
              rw [hh] at HA c4
              have HK4 : Hid (Blk (wr.setCell ⟨w.heap.size, k, none⟩ (.bool true)) w.heap.size 4 (boolsV (hasTo l n k (decide (k = n) || (B || true))))) := by
                have := HK2.out.set k (.bool true)
                rw [boolsV_set, hasTo_set] at this
                rw [Bool.or_true, Bool.or_true]
                exact this
              clear hh
              go_wp2
              go_roundw
              case rel => exact ⟨j + 1, by omega, by go_num, by rw [HA.out]; exact HK4.out, HB2.out.setCell (p := ⟨w.heap.size, k, none⟩) (Nat.le_refl _) _⟩
              case measure => simp [intOf]; omega
            | false =>
              rw [hh, Bool.or_false] at HA
              rw [hh] at c4
              clear hh
              go_wp2
              go_roundw
              case rel => exact ⟨j + 1, by omega, by go_num, by rw [HA.out]; exact HK2.out, HB2.out⟩
              case measure => simp [intOf]; omega
          · have hd1 : decide ((n : Int) ≤ v) = false := by simpa using hnv
            rw [hd1, Bool.false_and, Bool.or_false] at HA
            go_wp2
            go_roundw
            case rel => exact ⟨j + 1, by omega, by go_num, by rw [HA.out]; exact HK2.out, HB2.out⟩
            case measure => simp [intOf]; omega
        · obtain rfl : j = d.Uses.length := by omega
          have HN : Hid (Blk wr w.heap.size 4 (boolsV (tabTo l n (k + 1)))) := by
            have := HK2.out
            rw [List.take_length, ← HUS.out] at this
            show Blk _ _ _ _
            rw [← tabTo_next, hangs_eq]
            exact this
          clear hau
          go_wp2
          go_roundw
          case rel => exact ⟨k + 1, by omega, .inl (by omega), by go_num, HN.out, HB2.out⟩
          case measure => simp [intOf]; omega
    · have hdk : decide ((k : Int) ≤ i) = false := by simp; omega
      clear h'
      by_cases hni : n ≤ i
      · have hd1 : decide ((n : Int) ≤ i) = true := by simp; omega
        have c4 : wr.cell? ⟨w.heap.size, i, none⟩ = some (.bool (hangs l i n)) := HK2.out.cell (boolsV_get (tabTo_get (by omega)))
        go_wp2
        all_goals
          go_ret
          exact ⟨by simp_all, HB2.out⟩
      · have hd1 : decide ((n : Int) ≤ i) = false := by simp; omega
        have HE := Lib.hid (hangs_below HV.out (show i < n by omega))
        go_wp2
        go_ret
        exact ⟨by rw [HE.out]; rfl, HB2.out⟩
end Go.Proofs.Ytfdpannanpipdaa.slice
