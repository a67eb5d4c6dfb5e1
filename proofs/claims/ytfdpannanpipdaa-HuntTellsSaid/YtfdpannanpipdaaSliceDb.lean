/- (the part that HuntTells needs) back and on, walked. -/
import Derived.Test.YtfdpannanpipdaaSliceC
import Derived.StillTailTactics
set_option linter.unusedVariables false
set_option linter.unusedSimpArgs false
namespace Go.Proofs.Ytfdpannanpipdaa.slice
open Go.Bk Go.RowKit

def backRel (w : World) (l : List Api.DDep) (i : Nat) (k : Value) (w' : World) : Prop :=
  ∃ (q : Nat) (bs : List Bool), q ≤ i + 1 ∧ k = .int .i64 ((q : Int) - 1) ∧ BackInv l i q bs ∧ Blk w' w.heap.size 4 (boolsV bs) ∧ Below w.heap.size w w'
def backUse (w : World) (l : List Api.DDep) (i k : Nat) (j : Value) (w' : World) : Prop :=
  ∃ (q : Nat) (bs : List Bool), q ≤ (usesAt l k).length ∧ j = .int .i64 q ∧ BackPart l i k q bs ∧ Blk w' w.heap.size 4 (boolsV bs) ∧ Below w.heap.size w w'

set_option maxRecDepth 100000 in
set_option maxHeartbeats 1000000 in
theorem back_any {S : Nat → Prop} {w : World} {a : Option Addr} {c : Nat} {l : List Api.DDep} {i : Nat} (h : Arr S w a l) (hS : ∀ b, S b → b < w.heap.size) (hv : Valid l) (hi : i < l.length) (hlen : l.length ≤ 200) :
    Calls Try.prog 154 #[.slice a l.length c, .int .i64 i] w (RetL w (backOf l i)) := by
  have HV := Lib.hid hv
  have HF := Lib.hid (BackInv.first hi)
  have hbl : (backOf l i).length = l.length := by simp [backOf]
  obtain ⟨m, hm⟩ : ∃ n, n = l.length := ⟨_, rfl⟩
  rw [← hm] at hi hlen; rw [← hm]
  have HM := Lib.hid hm
  have HBL := Lib.hid hbl
  clear hm hv hbl
  go_enter Try.func154, Try.ntmps154
  go_wp2_with (with_reducible refine wp_make rfl rfl Try.underlying61 Try.info4 rfl rfl rfl (by omega) (by unfold maxLen; omega) fun w1 hblk hbel hsz => ?_
               have HK : Hid (Blk w1 w.heap.size 4 (boolsV (List.replicate m false))) := by show Blk _ _ _ _; simpa [boolsV] using hblk
               have HB := Lib.hid hbel
               have c2 : w1.cell? ⟨w.heap.size, i, none⟩ = some (.bool false) := HK.out.cell (boolsV_get (by rw [List.getElem?_replicate, if_pos hi]))
               have c3 : w1.frozen? ⟨w.heap.size, i, none⟩ = false := HK.out.frozen i
               clear hblk hbel)
  have HK1 : Hid (Blk (w1.setCell ⟨w.heap.size, i, none⟩ (.bool true)) w.heap.size 4 (boolsV ((List.replicate m false).set i true))) := by
    have := HK.out.set i (.bool true)
    rw [boolsV_set] at this
    exact this
  have HB1 := Lib.hid (HB.out.setCell (p := ⟨w.heap.size, i, none⟩) (Nat.le_refl _) (.bool true))
  clear c2 c3 HK HB
  go_loopw [6] (backRel w l i) (fun k _ => (intOf k + 1).toNat)
  case atStart => exact ⟨i + 1, _, Nat.le_refl _, by go_num, HF.out, by have := HM.out; rw [← this]; exact HK1.out, HB1.out⟩
  case round =>
    obtain ⟨q, bs, hq, rfl, hinv, hblk, hb⟩ := hrel
    have HK2 := Lib.hid hblk; have HB2 := Lib.hid hb; have HI := Lib.hid hinv
    have hbs := hb.size
    have hgs := hblk.lt
    have h' := h.keep (w' := wr) (fun b hb' => hb.block b (hS b hb'))
    clear hblk hb HK1 HB1 hinv HF
    by_cases hq0 : q = 0
    · subst hq0
      have hE := backOf_eq HV.out HI.out
      have HE := Lib.hid hE
      clear hE h'
      go_wp2
      go_ret
      have hx : m = (backOf l i).length := by rw [HBL.out, HM.out]
      rw [hx]
      exact .mk HB2.out (by rw [← HE.out]; exact blk_bools HK2.out (by rw [HI.out.len, ← HM.out]; unfold maxLen; omega) ⟨Nat.le_refl _, hgs⟩) (Nat.le_refl _) (by simp)
    · obtain ⟨k, rfl⟩ : ∃ k, q = k + 1 := ⟨q - 1, by omega⟩
      rw [show (((k + 1 : Nat) : Int) - 1) = (k : Int) by omega]
      have hkm : k < m := by omega
      obtain ⟨d, hd⟩ : ∃ y, l[k]? = some y := ⟨_, List.getElem?_eq_getElem (by have := HM.out; omega)⟩
      obtain ⟨v, hv⟩ : ∃ v, bs[k]? = some v := ⟨_, List.getElem?_eq_getElem (by rw [HI.out.len, ← HM.out]; omega)⟩
      have c2 : wr.cell? ⟨w.heap.size, k, none⟩ = some (.bool v) := HK2.out.cell (boolsV_get hv)
      have HD := Lib.hid hd; have HVK := Lib.hid hv; have HUS := Lib.hid (usesAt_some hd)
      clear hd hv
      cases v with
      | false =>
        clear h'
        go_wp2
        go_roundw
        case rel => exact ⟨k, bs, by omega, by go_num, HI.out.down HVK.out, HK2.out, HB2.out⟩
        case measure => simp [intOf] <;> omega
      | true =>
        obtain ⟨b, off, a0, c0, rfl, hSb, q1, hcap, -, hau⟩ := api_DDep_elem h' HD.out
        have hmu := hau.small
        unfold maxLen at hmu
        clear h' hau
        obtain ⟨wo, rfl⟩ : ∃ wo : World, wo = wr := ⟨_, rfl⟩
        go_wp2
        go_loopw [31] (backUse w l i k) (fun j _ => d.Uses.length - (intOf j).toNat)
        case atStart => exact ⟨0, bs, Nat.zero_le _, rfl, ⟨HI.out, HVK.out, fun u hu => by simp at hu⟩, HK2.out, HB2.out⟩
        case round =>
          obtain ⟨j, bs2, hj, rfl, hp, hblk, hb⟩ := hrel
          have hj : j ≤ d.Uses.length := by rw [← HUS.out]; exact hj
          have HK3 := Lib.hid hblk; have HB3 := Lib.hid hb; have HP := Lib.hid hp
          have hgs3 := hblk.lt
          obtain ⟨b', off', a0', c0', he, -, q1', -, -, hau⟩ := api_DDep_elem (h.keep (w' := wr) (fun b hb' => hb.block b (hS b hb'))) HD.out
          obtain ⟨rfl, rfl⟩ : b = b' ∧ off = off' := by simpa using he
          have hq11 := q1
          have hwo : wr.cell? ⟨b, off + k, none⟩ = wo.cell? ⟨b, off + k, none⟩ := by
            rw [HB3.out.cell (p := ⟨b, off + k, none⟩) (hS b hSb), HB2.out.cell (p := ⟨b, off + k, none⟩) (hS b hSb)]
          rw [q1', q1] at hwo
          simp only [Option.some.injEq, Value.slice.injEq] at hwo
          obtain ⟨rfl, -, rfl⟩ := hwo
          clear hblk hb hp HK2 HB2 HI he hq11
          by_cases hjl : j < d.Uses.length
          · obtain ⟨u, hu⟩ : ∃ y, d.Uses[j]? = some y := ⟨_, List.getElem?_eq_getElem hjl⟩
            obtain ⟨b2, off2, rfl, hSb2, q2, -⟩ := arr_int hau hu
            have hul := uses_lt HV.out (k := k) (u := u) (by rw [HUS.out]; exact List.mem_of_getElem? hu)
            have HST := Lib.hid (HP.out.step HV.out (u := u) (by rw [HUS.out]; exact hu))
            obtain ⟨v, rfl⟩ : ∃ v : Nat, u = v := ⟨u.toNat, by omega⟩
            have hvk : v < k := by omega
            have hvm : v < m := by omega
            clear hau hu hul
            obtain ⟨y, hy⟩ : ∃ y, bs2[v]? = some y := ⟨_, List.getElem?_eq_getElem (by rw [HP.out.inv.len, ← HM.out]; omega)⟩
            have c4 : wr.cell? ⟨w.heap.size, v, none⟩ = some (.bool y) := HK3.out.cell (boolsV_get hy)
            have f4 : wr.frozen? ⟨w.heap.size, v, none⟩ = false := HK3.out.frozen v
            have HK4 : Hid (Blk (wr.setCell ⟨w.heap.size, v, none⟩ (.bool true)) w.heap.size 4 (boolsV (bs2.set v true))) := by
              have := HK3.out.set v (.bool true)
              rw [boolsV_set] at this
              exact this
            clear hy
            go_wp2
            go_roundw
            case rel => exact ⟨j + 1, _, by rw [HUS.out]; omega, by go_num, HST.out, HK4.out, HB3.out.setCell (p := ⟨w.heap.size, v, none⟩) (Nat.le_refl _) _⟩
            case measure => simp [intOf] <;> omega
          · obtain rfl : j = d.Uses.length := by omega
            have HFI := Lib.hid (BackPart.finish (by rw [HUS.out]; exact HP.out))
            clear hau
            go_wp2
            go_roundw
            case rel => exact ⟨k, bs2, by omega, by go_num, HFI.out, HK3.out, HB3.out⟩
            case measure => simp [intOf] <;> omega
end Go.Proofs.Ytfdpannanpipdaa.slice
