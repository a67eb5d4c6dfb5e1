/- back and on, walked. -/
import Derived.Test.YtimlhjjdaggiiaaSliceC
import Derived.StillTailTactics
set_option linter.unusedVariables false
set_option linter.unusedSimpArgs false
namespace Go.Proofs.Ytimlhjjdaggiiaa.slice
open Go.Bk Go.RowKit

def backRel (w : World) (l : List Api.DDep) (i : Nat) (k : Value) (w' : World) : Prop :=
  ∃ (q : Nat) (bs : List Bool), q ≤ i + 1 ∧ k = .int .i64 ((q : Int) - 1) ∧ BackInv l i q bs ∧ Blk w' w.heap.size 4 (boolsV bs) ∧ Below w.heap.size w w'
def backUse (w : World) (l : List Api.DDep) (i k : Nat) (j : Value) (w' : World) : Prop :=
  ∃ (q : Nat) (bs : List Bool), q ≤ (usesAt l k).length ∧ j = .int .i64 q ∧ BackPart l i k q bs ∧ Blk w' w.heap.size 4 (boolsV bs) ∧ Below w.heap.size w w'

set_option maxRecDepth 100000 in
set_option maxHeartbeats 1000000 in
theorem back_any {S : Nat → Prop} {w : World} {a : Option Addr} {c : Nat} {l : List Api.DDep} {i : Nat} (h : Arr S w a l) (hS : ∀ b, S b → b < w.heap.size) (hv : Valid l) (hi : i < l.length) (hlen : l.length ≤ 200) :
    Calls Try.prog 99 #[.slice a l.length c, .int .i64 i] w (RetL w (backOf l i)) := by
  have HV := Lib.hid hv
  have HF := Lib.hid (BackInv.first hi)
  have hbl : (backOf l i).length = l.length := by simp [backOf]
  obtain ⟨m, hm⟩ : ∃ n, n = l.length := ⟨_, rfl⟩
  rw [← hm] at hi hlen; rw [← hm]
  have HM := Lib.hid hm
  have HBL := Lib.hid hbl
  clear hm hv hbl
  go_enter Try.func99, Try.ntmps99
  go_wp2_with (with_reducible refine wp_make rfl rfl Try.underlying173 Try.info4 rfl rfl rfl (by omega) (by unfold maxLen; omega) fun w1 hblk hbel hsz => ?_
               have HK : Hid (Blk w1 w.heap.size 4 (boolsV (List.replicate m false))) := by show Blk _ _ _ _; simpa [boolsV] using hblk
               have HB := Lib.hid hbel
               have c2 : w1.cell? ⟨w.heap.size, i, none⟩ = some (.bool false) := HK.out.cell (boolsV_get (by rw [List.getElem?_replicate, if_pos hi]))
               have c3 : w1.frozen? ⟨w.heap.size, i, none⟩ = false := HK.out.frozen i
               clear hblk hbel)
  have HK1 : Hid (Blk (w1.setCell ⟨w.heap.size, i, none⟩ (.bool true)) w.heap.size 4 (boolsV ((List.replicate m false).set i true))) := by
    have := HK.out.set i (.bool true)
    rw [boolsV_set] at this
    exact this
  have HB1 := Lib.hid (HB.out.setCell (p := ⟨w.heap.size, i, none⟩) (Nat.le_refl _) (.bool true))
  clear c2 c3 HK HB
  go_loopw [6] (backRel w l i) (fun k _ => (intOf k + 1).toNat)
  case atStart => exact ⟨i + 1, _, Nat.le_refl _, by go_num, HF.out, by have := HM.out; rw [← this]; exact HK1.out, HB1.out⟩
  case round =>
    obtain ⟨q, bs, hq, rfl, hinv, hblk, hb⟩ := hrel
    have HK2 := Lib.hid hblk; have HB2 := Lib.hid hb; have HI := Lib.hid hinv
    have hbs := hb.size
    have hgs := hblk.lt
    have h' := h.keep (w' := wr) (fun b hb' => hb.block b (hS b hb'))
    clear hblk hb HK1 HB1 hinv HF
    by_cases hq0 : q = 0
    · subst hq0
      have hE := backOf_eq HV.out HI.out
      have HE := Lib.hid hE
      clear hE h'
      go_wp2
      go_ret
      have hx : m = (backOf l i).length := by rw [HBL.out, HM.out]
      rw [hx]
      exact .mk HB2.out (by rw [← HE.out]; exact blk_bools HK2.out (by rw [HI.out.len, ← HM.out]; unfold maxLen; omega) ⟨Nat.le_refl _, hgs⟩) (Nat.le_refl _) (by simp)
    · obtain ⟨k, rfl⟩ : ∃ k, q = k + 1 := ⟨q - 1, by omega⟩
      rw [show (((k + 1 : Nat) : Int) - 1) = (k : Int) by omega]
      have hkm : k < m := by omega
      obtain ⟨d, hd⟩ : ∃ y, l[k]? = some y := ⟨_, List.getElem?_eq_getElem (by have := HM.out; omega)⟩
      obtain ⟨v, hv⟩ : ∃ v, bs[k]? = some v := ⟨_, List.getElem?_eq_getElem (by rw [HI.out.len, ← HM.out]; omega)⟩
      have c2 : wr.cell? ⟨w.heap.size, k, none⟩ = some (.bool v) := HK2.out.cell (boolsV_get hv)
      have HD := Lib.hid hd; have HVK := Lib.hid hv; have HUS := Lib.hid (usesAt_some hd)
      clear hd hv
      cases v with
      | false =>
        clear h'
        go_wp2
        go_roundw
        case rel => exact ⟨k, bs, by omega, by go_num, HI.out.down HVK.out, HK2.out, HB2.out⟩
        case measure => simp [intOf] <;> omega
      | true =>
        obtain ⟨b, off, a0, c0, rfl, hSb, q1, hcap, -, hau⟩ := api_DDep_elem h' HD.out
        have hmu := hau.small
        unfold maxLen at hmu
        clear h' hau
        obtain ⟨wo, rfl⟩ : ∃ wo : World, wo = wr := ⟨_, rfl⟩
        go_wp2
        go_loopw [31] (backUse w l i k) (fun j _ => d.Uses.length - (intOf j).toNat)
        case atStart => exact ⟨0, bs, Nat.zero_le _, rfl, ⟨HI.out, HVK.out, fun u hu => by simp at hu⟩, HK2.out, HB2.out⟩
        case round =>
          obtain ⟨j, bs2, hj, rfl, hp, hblk, hb⟩ := hrel
          have hj : j ≤ d.Uses.length := by rw [← HUS.out]; exact hj
          have HK3 := Lib.hid hblk; have HB3 := Lib.hid hb; have HP := Lib.hid hp
          have hgs3 := hblk.lt
          obtain ⟨b', off', a0', c0', he, -, q1', -, -, hau⟩ := api_DDep_elem (h.keep (w' := wr) (fun b hb' => hb.block b (hS b hb'))) HD.out
          obtain ⟨rfl, rfl⟩ : b = b' ∧ off = off' := by simpa using he
          have hq11 := q1
          have hwo : wr.cell? ⟨b, off + k, none⟩ = wo.cell? ⟨b, off + k, none⟩ := by
            rw [HB3.out.cell (p := ⟨b, off + k, none⟩) (hS b hSb), HB2.out.cell (p := ⟨b, off + k, none⟩) (hS b hSb)]
          rw [q1', q1] at hwo
          simp only [Option.some.injEq, Value.slice.injEq] at hwo
          obtain ⟨rfl, -, rfl⟩ := hwo
          clear hblk hb hp HK2 HB2 HI he hq11
          by_cases hjl : j < d.Uses.length
          · obtain ⟨u, hu⟩ : ∃ y, d.Uses[j]? = some y := ⟨_, List.getElem?_eq_getElem hjl⟩
            obtain ⟨b2, off2, rfl, hSb2, q2, -⟩ := arr_int hau hu
            have hul := uses_lt HV.out (k := k) (u := u) (by rw [HUS.out]; exact List.mem_of_getElem? hu)
            have HST := Lib.hid (HP.out.step HV.out (u := u) (by rw [HUS.out]; exact hu))
            obtain ⟨v, rfl⟩ : ∃ v : Nat, u = v := ⟨u.toNat, by omega⟩
            have hvk : v < k := by omega
            have hvm : v < m := by omega
            clear hau hu hul
            obtain ⟨y, hy⟩ : ∃ y, bs2[v]? = some y := ⟨_, List.getElem?_eq_getElem (by rw [HP.out.inv.len, ← HM.out]; omega)⟩
            have c4 : wr.cell? ⟨w.heap.size, v, none⟩ = some (.bool y) := HK3.out.cell (boolsV_get hy)
            have f4 : wr.frozen? ⟨w.heap.size, v, none⟩ = false := HK3.out.frozen v
            have HK4 : Hid (Blk (wr.setCell ⟨w.heap.size, v, none⟩ (.bool true)) w.heap.size 4 (boolsV (bs2.set v true))) := by
              have := HK3.out.set v (.bool true)
              rw [boolsV_set] at this
              exact this
            clear hy
            go_wp2
            go_roundw
            case rel => exact ⟨j + 1, _, by rw [HUS.out]; omega, by go_num, HST.out, HK4.out, HB3.out.setCell (p := ⟨w.heap.size, v, none⟩) (Nat.le_refl _) _⟩
            case measure => simp [intOf] <;> omega
          · obtain rfl : j = d.Uses.length := by omega
            have HFI := Lib.hid (BackPart.finish (by rw [HUS.out]; exact HP.out))
            clear hau
            go_wp2
            go_roundw
            case rel => exact ⟨k, bs2, by omega, by go_num, HFI.out, HK3.out, HB3.out⟩
            case measure => simp [intOf] <;> omega

set_option maxRecDepth 100000 in
theorem onFn_any {w : World} {g gb m u : Nat} {b : Bool} (hc : w.cell? ⟨gb, 0, none⟩ = some (.slice (some ⟨g, 0, none⟩) m m)) (hu : u < m) (hb : w.cell? ⟨g, u, none⟩ = some (.bool b)) :
    Calls Try.prog 139 #[.int .i64 u, .pointer (some ⟨gb, 0, none⟩)] w fun e w' => e = .returned (.bool b) ∧ w = w' := by
  go_enter Try.func139, Try.ntmps139
  go_wp2
  go_ret
  exact ⟨rfl, rfl⟩

def onRel (w : World) (l : List Api.DDep) (i m g gb : Nat) (k : Value) (w' : World) : Prop :=
  ∃ q : Nat, i < q ∧ q ≤ m ∧ k = .int .i64 q ∧ Blk w' g 4 (boolsV (onTo l i q)) ∧ w'.cell? ⟨gb, 0, none⟩ = some (.slice (some ⟨g, 0, none⟩) m m) ∧ gb < w'.heap.size ∧ Below w.heap.size w w'
theorem on_next {l : List Api.DDep} (hv : Valid l) {i k : Nat} (hik : i < k) {d : Api.DDep} (hd : l[k]? = some d) : d.Uses.any (fun u => hangs l u.toNat i) = hangs l k i := by
  rw [hangs_any hv k i, usesAt_some hd, show decide (k = i) = false by simp; omega, Bool.false_or]

set_option maxRecDepth 100000 in
set_option maxHeartbeats 1000000 in
theorem on_any {S : Nat → Prop} {w : World} {a : Option Addr} {c : Nat} {l : List Api.DDep} {i : Nat} (h : Arr S w a l) (hS : ∀ b, S b → b < w.heap.size) (hv : Valid l) (hi : i < l.length) (hlen : l.length ≤ 200) :
    Calls Try.prog 100 #[.slice a l.length c, .int .i64 i] w (RetL w (onOf l i)) := by
  have HV := Lib.hid hv
  have hst := onTo_start hv (i := i) (Nat.le_of_lt hi)
  have hnx := onTo_set (l := l) (i := i) hi
  rw [hst, show hangs l i i = true by rw [hangs_any hv]; simp] at hnx
  have HNX := Lib.hid hnx
  have hbl := onOf_len l i
  obtain ⟨m, hm⟩ : ∃ n, n = l.length := ⟨_, rfl⟩
  rw [← hm] at hi hlen HNX; rw [← hm]
  have HM := Lib.hid hm; have HBL := Lib.hid hbl
  clear hm hv hbl hst hnx
  go_enter Try.func100, Try.ntmps100
  go_wp2_with (with_reducible refine wp_make rfl rfl Try.underlying173 Try.info4 rfl rfl rfl (by omega) (by unfold maxLen; omega) fun w1 hblk hbel hsz => ?_
               have HK : Hid (Blk w1 w.heap.size 4 (boolsV (List.replicate m false))) := by show Blk _ _ _ _; simpa [boolsV] using hblk
               have HB := Lib.hid hbel
               have c2 : w1.cell? ⟨w.heap.size, i, none⟩ = some (.bool false) := HK.out.cell (boolsV_get (by rw [List.getElem?_replicate, if_pos hi]))
               have c3 : w1.frozen? ⟨w.heap.size, i, none⟩ = false := HK.out.frozen i
               have hne : ¬ w1.heap.size = w.heap.size := by omega
               clear hblk hbel)
  have HK1 : Hid (Blk (w1.setCell ⟨w.heap.size, i, none⟩ (.bool true)) w.heap.size 4 (boolsV (onTo l i (i + 1)))) := by
    have := HK.out.set i (.bool true)
    rw [boolsV_set, HNX.out] at this
    exact this
  have HB1 := Lib.hid (HB.out.setCell (p := ⟨w.heap.size, i, none⟩) (Nat.le_refl _) (.bool true))
  refine cut_wp (fun wz => Blk wz w.heap.size 4 (boolsV (onTo l i (i + 1))) ∧ wz.cell? ⟨w1.heap.size, 0, none⟩ = some (.slice (some ⟨w.heap.size, 0, none⟩) m m) ∧ w1.heap.size < wz.heap.size ∧ Below w.heap.size w wz) ?_ ?_
  · refine ⟨HK1.out.keep (Below.heap_alloc _ _ _ (by simpa [World.setCell] using hsz)), ?_, by simp [World.setCell], HB1.out.alloc (by simp [World.setCell]; omega) _⟩
    have := World.cell?_alloc_new (w1.setCell ⟨w.heap.size, i, none⟩ (.bool true)) #[.slice (some ⟨w.heap.size, 0, none⟩) m m] 173 0
    simpa [World.setCell] using this
  rintro wz ⟨hkz, hcz, hgz, hbz⟩
  generalize hgb : w1.heap.size = gb at *
  have HKZ := Lib.hid hkz; have HBZ := Lib.hid hbz; have HCZ := Lib.hid hcz
  clear hkz hbz hcz HK1 HB1 HK HB c2 c3 HNX hgb
  go_loopw [6] (onRel w l i m w.heap.size gb) (fun k _ => m - (intOf k).toNat)
  case atStart => exact ⟨i + 1, by omega, by omega, by go_num, HKZ.out, HCZ.out, hgz, HBZ.out⟩
  case round =>
    obtain ⟨k, hik, hkm, rfl, hblk, hcb, hgbs, hb⟩ := hrel
    have HK2 := Lib.hid hblk; have HB2 := Lib.hid hb
    have hbs := hb.size
    have hgs := hblk.lt
    have h' := h.keep (w' := wr) (fun b hb' => hb.block b (hS b hb'))
    clear hblk hb HKZ HBZ HCZ
    by_cases hlt : k < m
    · obtain ⟨d, hd⟩ : ∃ y, l[k]? = some y := ⟨_, List.getElem?_eq_getElem (by have := HM.out; omega)⟩
      obtain ⟨b, off, a0, c0, rfl, hSb, q1, hcap, -, hau⟩ := api_DDep_elem h' hd
      have hmu := hau.small
      unfold maxLen at hmu
      have hbl := hS b hSb
      have HA := Lib.hid hau
      have HNX := Lib.hid (on_next HV.out hik hd)
      have c4 : wr.cell? ⟨w.heap.size, k, none⟩ = some (.bool false) := by
        refine HK2.out.cell (boolsV_get ?_)
        unfold onTo
        rw [List.getElem?_append_right (by rw [List.length_take, onOf_len, ← HM.out]; omega), List.length_take, onOf_len, ← HM.out, Nat.min_eq_left (by omega), Nat.sub_self, List.getElem?_replicate, if_pos (by omega)]
      have f4 : wr.frozen? ⟨w.heap.size, k, none⟩ = false := HK2.out.frozen k
      have HU : Hid (∀ u ∈ d.Uses, 0 ≤ u ∧ u < (k : Int)) := fun u hu => uses_lt HV.out (by rw [usesAt_some hd]; exact hu)
      have hp : ∀ (y : Int) (wx : World), y ∈ d.Uses → I64 y → wr.drew = wx → Calls Try.prog 139 (#[.int .i64 y] ++ #[.pointer (some ⟨gb, 0, none⟩)]) wx fun e w' => e = .returned (.bool ((fun u => hangs l u.toNat i) y)) ∧ wx = w' := fun y wx hy _ hq => by
        subst hq
        have hyu := HU.out y hy
        obtain ⟨v, rfl⟩ : ∃ v : Nat, y = v := ⟨y.toNat, by omega⟩
        refine onFn_any (g := w.heap.size) (m := m) hcb (by omega) ?_
        exact HK2.out.cell (boolsV_get (onTo_get (by omega) (by rw [← HM.out]; omega)))
      have HC := Lib.hid (containsFunc_any (w := wr.drew) (c := c0) (p := fun u => hangs l u.toNat i) (F := 139) (caps := #[.pointer (some ⟨gb, 0, none⟩)]) mild_eq (Arr.keep (w := wr) (fun b _ => rfl) HA.out) (fun b hb => Nat.lt_of_lt_of_le (hS b hb) hbs) (fun y w => Try.call139 _ _) hp)
      rw [HNX.out] at HC
      clear hd h' hau hp
      go_wp2
      go_still_tail 10, (by kernel_rfl)
      still_call (HC.out.mono fun e w' h => ⟨h.1, h.2.symm⟩)
      repeat still_step
      refine wpStill_nil ?_
      change wpList _ _ _ _ _ wr.drew
      have HK4 : Hid (Blk (wr.drew.setCell ⟨w.heap.size, k, none⟩ (.bool (hangs l k i))) w.heap.size 4 (boolsV (onTo l i (k + 1)))) := by
        have := Blk.set (w := wr.drew) HK2.out k (.bool (hangs l k i))
        rw [boolsV_set, onTo_set (by rw [← HM.out]; exact hlt)] at this
        exact this
      have hcb2 : Hid ((wr.drew.setCell ⟨w.heap.size, k, none⟩ (.bool (hangs l k i))).cell? ⟨gb, 0, none⟩ = some (.slice (some ⟨w.heap.size, 0, none⟩) m m)) := by
        show _ = _
        rw [World.cell?_of_block (w := wr.drew)]
        · exact hcb
        · show (wr.drew.setCell _ _).heap[gb]? = _
          simp only [World.setCell]
          rw [Array.getElem?_modify, if_neg (by omega)]
      have HB4 := Lib.hid (HB2.out.drew.setCell (p := ⟨w.heap.size, k, none⟩) (Nat.le_refl _) (.bool (hangs l k i)))
      clear HC HA HU
      go_wp2
      go_roundw
      case rel => exact ⟨k + 1, by omega, by omega, by go_num, HK4.out, hcb2.out, by simpa [World.setCell] using hgbs, HB4.out⟩
      case measure => simp [intOf] <;> omega
    · obtain rfl : k = m := by omega
      clear h'
      go_wp2
      go_ret
      have hx : k = (onOf l i).length := by rw [HBL.out, HM.out]
      have hk2 := HK2.out
      rw [HM.out, onTo_end] at hk2
      rw [hx]
      exact .mk HB2.out (blk_bools hk2 (by rw [← hx]; unfold maxLen; omega) ⟨Nat.le_refl _, hgs⟩) (Nat.le_refl _) (by simp)
end Go.Proofs.Ytimlhjjdaggiiaa.slice
