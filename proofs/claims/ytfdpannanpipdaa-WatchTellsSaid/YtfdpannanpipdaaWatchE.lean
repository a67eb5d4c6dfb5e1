/- What was in a slot: the reference's first event that does not fit, walked. -/
import Derived.Test.YtfdpannanpipdaaWatchD
import Derived.Deep.RegionHeld3
set_option linter.unusedVariables false
set_option linter.unusedSimpArgs false
namespace Go.Proofs.Ytfdpannanpipdaa.watch
open Go.Bk Go.RowKit

theorem below_new {w w' : World} (h : Below w.heap.size w w') (o : Obj) : Below w.heap.size w (w'.alloc o) := h.alloc h.size o
theorem below_set {w w' : World} (h : Below w.heap.size w w') {g k : Nat} (hg : w.heap.size ≤ g) (v : Value) : Below w.heap.size w (w'.setCell ⟨g, k, none⟩ v) := h.setCell (p := ⟨g, k, none⟩) hg v
theorem below_drew {w w' : World} (h : Below w.heap.size w w') : Below w.heap.size w w'.drew := Go.Bk.Below.drewN h 1

set_option maxRecDepth 100000 in
set_option maxHeartbeats 2000000 in
theorem watchWhole_any {S : Nat → Prop} {w : World} {a : Option Addr} {c n : Nat} {l : List Api.Event} (hn : l.length = n) (h : Arr S w a l) (hS : ∀ b, S b → b < w.heap.size) :
    Calls Try.prog 18 #[.slice a n c] w fun e w' => e = .returned (.int .i64 (wholeOf l)) ∧ Below w.heap.size w w' := by
  have hsm := h.small
  rw [hn] at hsm
  unfold maxLen at hsm
  have HN := Lib.hid hn
  have HA : Hid (∀ w', Below w.heap.size w w' → Arr S w' a l) := fun w' hb => h.keep (fun b hb' => hb.block b (hS b hb'))
  have HS := Lib.hid hS
  clear hn h hS
  have HK : Hid (∀ (k : Nat) (p s : Int) w', k ≤ n → Below w.heap.size w w' → Calls Try.prog 68 #[.slice a n c, .int .i64 p, .int .i64 s, .int .i64 (k : Int)] w' fun e w'' => e = .returned (.tuple #[optV (known l p s k), .bool (known l p s k).isSome]) ∧ Below w'.heap.size w' w'') := fun k p s w' hk hb => watchKnown_any HN.out (HA.out _ hb) (fun b hb' => Nat.lt_of_lt_of_le (HS.out b hb') hb.size) hk
  go_enter Try.func18, Try.ntmps18
  go_wp2
  go_loopw [3] (fun i w' => ∃ k : Nat, k ≤ n ∧ i = .int .i64 k ∧ noneBad l k ∧ Below w.heap.size w w') (fun i _ => n - (intOf i).toNat)
  case atStart => exact ⟨0, Nat.zero_le _, rfl, fun j hj => by omega, Below.refl _ _⟩
  case round =>
    obtain ⟨k, hk, rfl, hnb, hb⟩ := hrel
    have HNB := Lib.hid hnb; have HB := Lib.hid hb
    have hbs := hb.size
    clear hnb hb
    by_cases hlt : k < n
    · obtain ⟨x, hx⟩ : ∃ x, l[k]? = some x := ⟨_, List.getElem?_eq_getElem (by have := HN.out; omega)⟩
      have HBA := Lib.hid (bad_at hx)
      have HX := Lib.hid hx
      obtain ⟨b1, o1, rfl, hsb, q0, q1, q2, q3, q4, q5, q6, q7, q8, q9, q10, q11, -⟩ := api_Event_elem (HA.out _ HB.out) hx
      clear hx
      have hsb' := HS.out _ hsb
      clear hsb
      have hne : ∀ (W : World) (j v k), (W.setCell ⟨wr.heap.size, j, none⟩ v).cell? ⟨b1, k, none⟩ = W.cell? ⟨b1, k, none⟩ := fun W j v k => World.cell?_of_block (w := W) (set_other _ (by show b1 ≠ _; omega))
      by_cases hr : isRW x = true
      · have hk34 : x.Kind = 3 ∨ x.Kind = 4 := by simpa [isRW] using hr
        have hd : ((x.Kind != 3) && (x.Kind != 4)) = false := by rcases hk34 with e | e <;> simp [e]
        have HRW := Lib.hid hr
        have HKK := Lib.hid (HK.out k x.A x.B)
        have HBX : Hid (∀ o, Below w.heap.size w (wr.alloc o).drew) := fun o => Go.Bk.Below.drewN (HB.out.alloc hbs o) 1
        have HBD : Hid (Below w.heap.size w wr.drew) := Go.Bk.Below.drewN HB.out 1
        have HCL : Hid (∀ w', Below w.heap.size w w' → w'.cell? ⟨b1, o1 + k * 12, none⟩ = some (.int .i64 x.Kind) ∧ w'.cell? ⟨b1, o1 + k * 12 + 6, none⟩ = some (.int .i64 x.A) ∧ w'.cell? ⟨b1, o1 + k * 12 + 7, none⟩ = some (.int .i64 x.B) ∧ w'.cell? ⟨b1, o1 + k * 12 + 8, none⟩ = some (.int .i64 x.Val.Kind) ∧ w'.cell? ⟨b1, o1 + k * 12 + 9, none⟩ = some (.int .i64 x.Val.N) ∧ w'.cell? ⟨b1, o1 + k * 12 + 10, none⟩ = some (.int .i64 x.Old.Kind) ∧ w'.cell? ⟨b1, o1 + k * 12 + 11, none⟩ = some (.int .i64 x.Old.N)) := fun w' hb => by
          obtain ⟨_, _, e9, -, r0, r1, r2, r3, r4, r5, r6, r7, r8, r9, r10, r11, -⟩ := api_Event_elem (HA.out _ hb) HX.out
          cases e9
          exact ⟨r0, r6, r7, r8, r9, r10, r11⟩
        have HTD : Hid (∀ w1, Below wr.drew.heap.size wr.drew w1 → Below w.heap.size w w1 ∧ w.heap.size ≤ w1.heap.size) := fun w1 hb' => ⟨HBD.out.trans (hb'.mono HBD.out.size), (HBD.out.trans (hb'.mono HBD.out.size)).size⟩
        have HTX : Hid (∀ w1, Below (wr.alloc (.cells #[.int .i64 0, .int .i64 0] 24)).drew.heap.size (wr.alloc (.cells #[.int .i64 0, .int .i64 0] 24)).drew w1 → Below w.heap.size w w1 ∧ w.heap.size ≤ w1.heap.size ∧ Blk w1 wr.heap.size 24 [.int .i64 0, .int .i64 0]) := fun w1 hb' => ⟨(HBX.out _).trans (hb'.mono (HBX.out _).size), ((HBX.out _).trans (hb'.mono (HBX.out _).size)).size, Blk.keep (hb'.block _ (by simp [World.drew])) (blk_new wr [.int .i64 0, .int .i64 0] 24)⟩
        clear hr
        rcases hk34 with e3 | e4
        · skip
          have d3 : (x.Kind != 3) = false := by simp [e3]
          have d4 : (x.Kind == 4) = false := by simp [e3]
          have HT : Hid (told x = x.Val) := by show _ = _; unfold told; rw [if_neg (by omega)]
          clear e3
          go_wp2
          go_region_held3 (fun w' => w'.cell? ⟨b1, o1 + k * 12 + 6, none⟩ = some (.int .i64 x.A) ∧ w'.cell? ⟨b1, o1 + k * 12 + 7, none⟩ = some (.int .i64 x.B)) (first | exact ⟨q6, q7⟩ | exact ⟨r6, r7⟩ | exact ⟨by rw [hne, hne]; exact r6, by rw [hne, hne]; exact r7⟩ | go_keep) (first | (go_at_call 68; refine (HKK.out _ hk HBD.out).mono ?_; rintro e w1 ⟨rfl, hb'⟩; obtain ⟨hb1, hs1⟩ := HTD.out _ hb'; have HB1 := Lib.hid hb1; clear hb' hb1; obtain ⟨r0, r6, r7, r8, r9, r10, r11⟩ := HCL.out _ HB1.out) | (go_at_call 68; refine (HKK.out _ hk (HBX.out _)).mono ?_; rintro e w1 ⟨rfl, hb'⟩; obtain ⟨hb1, hs1, hblk⟩ := HTX.out _ hb'; have HB1 := Lib.hid hb1; have HV1 := Lib.hid hblk; have c0 := HV1.out.cell (j := 0) rfl; have c1 := HV1.out.cell (j := 1) rfl; have f0 := HV1.out.frozen 0; have f1 := HV1.out.frozen 1; clear hb' hb1 hblk; obtain ⟨r0, r6, r7, r8, r9, r10, r11⟩ := HCL.out _ HB1.out))
          all_goals first
            | (obtain ⟨wz, hwz⟩ : ∃ wz, wz = w1.alloc (.cells #[.int .i64 ((known l x.A x.B k).getD ⟨0, 0⟩).Kind, .int .i64 ((known l x.A x.B k).getD ⟨0, 0⟩).N] 24) := ⟨_, rfl⟩
               rw [← hwz]
               obtain ⟨g, hg⟩ : ∃ g, g = w1.heap.size := ⟨_, rfl⟩
               rw [← hg]
               have HVZ : Hid (Blk wz g 24 [.int .i64 ((known l x.A x.B k).getD ⟨0, 0⟩).Kind, .int .i64 ((known l x.A x.B k).getD ⟨0, 0⟩).N]) := by rw [hwz]; exact blk_new' (cs := [.int .i64 ((known l x.A x.B k).getD ⟨0, 0⟩).Kind, .int .i64 ((known l x.A x.B k).getD ⟨0, 0⟩).N]) hg
               have HBZ : Hid (Below w.heap.size w wz) := by rw [hwz]; exact below_new HB1.out _
               have hgz : w.heap.size ≤ g := by omega
               clear hwz hg r0 r6 r7 r8 r9 r10 r11 HB1)
            | (obtain ⟨wz, hwz⟩ : ∃ wz, wz = (w1.setCell ⟨wr.heap.size, 0, none⟩ (.int .i64 ((known l x.A x.B k).getD ⟨0, 0⟩).Kind)).setCell ⟨wr.heap.size, 1, none⟩ (.int .i64 ((known l x.A x.B k).getD ⟨0, 0⟩).N) := ⟨_, rfl⟩
               rw [← hwz]
               obtain ⟨g, hg⟩ : ∃ g, g = wr.heap.size := ⟨_, rfl⟩
               rw [← hg]
               have HVZ : Hid (Blk wz g 24 [.int .i64 ((known l x.A x.B k).getD ⟨0, 0⟩).Kind, .int .i64 ((known l x.A x.B k).getD ⟨0, 0⟩).N]) := by rw [hwz, hg]; exact (HV1.out.set 0 _).set 1 _
               have HBZ : Hid (Below w.heap.size w wz) := by rw [hwz]; exact below_set (below_set HB1.out hbs _) hbs _
               have hgz : w.heap.size ≤ g := by omega
               clear hwz hg r0 r6 r7 r8 r9 r10 r11 HB1 c0 c1 f0 f1 HV1)
          all_goals
            have hgl := HVZ.out.lt
            have hsz := HBZ.out.size
            obtain ⟨r0, r6, r7, r8, r9, r10, r11⟩ := HCL.out _ HBZ.out
            have c0 := HVZ.out.cell (j := 0) rfl
            have c1 := HVZ.out.cell (j := 1) rfl
            have hal : ∀ (o : Obj) (j : Nat), (wz.alloc o).cell? ⟨b1, j, none⟩ = wz.cell? ⟨b1, j, none⟩ := fun o j => ((Below.refl _ _).alloc (Nat.le_refl _) o).cell (p := ⟨b1, j, none⟩) (by show b1 < _; omega)
            have hag : ∀ (o : Obj) (j : Nat), (wz.alloc o).cell? ⟨g, j, none⟩ = wz.cell? ⟨g, j, none⟩ := fun o j => ((Below.refl _ _).alloc (Nat.le_refl _) o).cell (p := ⟨g, j, none⟩) (by show g < _; omega)
            clear HVZ HBX HBD HTD HTX q0 q1 q2 q3 q4 q5 q6 q7 q8 q9 q10 q11 hne
            cases hkn : known l x.A x.B k with
            | none =>
              have HBF : Hid (bad l k = false) := by show _ = _; rw [HBA.out, hkn]; simp
              rw [hkn] at c0 c1
              clear hkn
              go_wp2
              go_roundw
              case rel => exact ⟨k + 1, by omega, by go_num, HNB.out.succ HBF.out, by repeat (first | exact HBZ.out | refine below_new ?_ _ | refine below_set ?_ (by omega) _ | refine below_drew ?_)⟩
              case measure => simp [intOf]; omega
            | some v =>
              rw [hkn] at c0 c1
              simp only [Option.getD_some] at c0 c1
              by_cases hv1 : v.Kind = x.Val.Kind ∧ v.N = x.Val.N
              · have HBF : Hid (bad l k = false) := by
                  show _ = _
                  rw [HBA.out, hkn, HT.out]
                  have : v = x.Val := by cases v; cases h9 : x.Val; simp [h9] at hv1 ⊢; exact hv1
                  simp [this]
                obtain ⟨hv1, hv2⟩ := hv1
                rw [hv1] at c0
                rw [hv2] at c1
                clear hkn hv1 hv2
                go_wp2
                go_roundw
                case rel => exact ⟨k + 1, by omega, by go_num, HNB.out.succ HBF.out, by repeat (first | exact HBZ.out | refine below_new ?_ _ | refine below_set ?_ (by omega) _ | refine below_drew ?_)⟩
                case measure => simp [intOf]; omega
              · have HBF : Hid (bad l k = true) := by
                  show _ = _
                  rw [HBA.out, hkn, HT.out, HRW.out]
                  have : v ≠ x.Val := fun e => hv1 (by rw [e]; exact ⟨rfl, rfl⟩)
                  simp [this]
                have HWW := Lib.hid (wholeOf_at (by rw [HN.out]; exact hlt) HNB.out HBF.out)
                clear hkn
                by_cases hk1 : v.Kind = x.Val.Kind
                · have hn1 : ¬ v.N = x.Val.N := fun e => hv1 ⟨hk1, e⟩
                  rw [hk1] at c0
                  clear hv1 hk1
                  go_wp2
                  go_ret
                  rw [HWW.out]
                  exact ⟨rfl, by repeat (first | exact HBZ.out | refine below_new ?_ _ | refine below_set ?_ (by omega) _ | refine below_drew ?_)⟩
                · clear hv1
                  go_wp2
                  go_ret
                  rw [HWW.out]
                  exact ⟨rfl, by repeat (first | exact HBZ.out | refine below_new ?_ _ | refine below_set ?_ (by omega) _ | refine below_drew ?_)⟩
        · skip
          have d3 : (x.Kind != 3) = true := by simp [e4]
          have d3' : (x.Kind != 4) = false := by simp [e4]
          have d4 : (x.Kind == 4) = true := by simp [e4]
          have HT : Hid (told x = x.Old) := by show _ = _; unfold told; rw [if_pos e4]
          clear e4
          go_wp2
          go_region_held3 (fun w' => w'.cell? ⟨b1, o1 + k * 12 + 6, none⟩ = some (.int .i64 x.A) ∧ w'.cell? ⟨b1, o1 + k * 12 + 7, none⟩ = some (.int .i64 x.B)) (first | exact ⟨q6, q7⟩ | exact ⟨r6, r7⟩ | exact ⟨by rw [hne, hne]; exact r6, by rw [hne, hne]; exact r7⟩ | go_keep) (first | (go_at_call 68; refine (HKK.out _ hk HBD.out).mono ?_; rintro e w1 ⟨rfl, hb'⟩; obtain ⟨hb1, hs1⟩ := HTD.out _ hb'; have HB1 := Lib.hid hb1; clear hb' hb1; obtain ⟨r0, r6, r7, r8, r9, r10, r11⟩ := HCL.out _ HB1.out) | (go_at_call 68; refine (HKK.out _ hk (HBX.out _)).mono ?_; rintro e w1 ⟨rfl, hb'⟩; obtain ⟨hb1, hs1, hblk⟩ := HTX.out _ hb'; have HB1 := Lib.hid hb1; have HV1 := Lib.hid hblk; have c0 := HV1.out.cell (j := 0) rfl; have c1 := HV1.out.cell (j := 1) rfl; have f0 := HV1.out.frozen 0; have f1 := HV1.out.frozen 1; clear hb' hb1 hblk; obtain ⟨r0, r6, r7, r8, r9, r10, r11⟩ := HCL.out _ HB1.out))
          all_goals first
            | (obtain ⟨wz, hwz⟩ : ∃ wz, wz = w1.alloc (.cells #[.int .i64 ((known l x.A x.B k).getD ⟨0, 0⟩).Kind, .int .i64 ((known l x.A x.B k).getD ⟨0, 0⟩).N] 24) := ⟨_, rfl⟩
               rw [← hwz]
               obtain ⟨g, hg⟩ : ∃ g, g = w1.heap.size := ⟨_, rfl⟩
               rw [← hg]
               have HVZ : Hid (Blk wz g 24 [.int .i64 ((known l x.A x.B k).getD ⟨0, 0⟩).Kind, .int .i64 ((known l x.A x.B k).getD ⟨0, 0⟩).N]) := by rw [hwz]; exact blk_new' (cs := [.int .i64 ((known l x.A x.B k).getD ⟨0, 0⟩).Kind, .int .i64 ((known l x.A x.B k).getD ⟨0, 0⟩).N]) hg
               have HBZ : Hid (Below w.heap.size w wz) := by rw [hwz]; exact below_new HB1.out _
               have hgz : w.heap.size ≤ g := by omega
               clear hwz hg r0 r6 r7 r8 r9 r10 r11 HB1)
            | (obtain ⟨wz, hwz⟩ : ∃ wz, wz = (w1.setCell ⟨wr.heap.size, 0, none⟩ (.int .i64 ((known l x.A x.B k).getD ⟨0, 0⟩).Kind)).setCell ⟨wr.heap.size, 1, none⟩ (.int .i64 ((known l x.A x.B k).getD ⟨0, 0⟩).N) := ⟨_, rfl⟩
               rw [← hwz]
               obtain ⟨g, hg⟩ : ∃ g, g = wr.heap.size := ⟨_, rfl⟩
               rw [← hg]
               have HVZ : Hid (Blk wz g 24 [.int .i64 ((known l x.A x.B k).getD ⟨0, 0⟩).Kind, .int .i64 ((known l x.A x.B k).getD ⟨0, 0⟩).N]) := by rw [hwz, hg]; exact (HV1.out.set 0 _).set 1 _
               have HBZ : Hid (Below w.heap.size w wz) := by rw [hwz]; exact below_set (below_set HB1.out hbs _) hbs _
               have hgz : w.heap.size ≤ g := by omega
               clear hwz hg r0 r6 r7 r8 r9 r10 r11 HB1 c0 c1 f0 f1 HV1)
          all_goals
            have hgl := HVZ.out.lt
            have hsz := HBZ.out.size
            obtain ⟨r0, r6, r7, r8, r9, r10, r11⟩ := HCL.out _ HBZ.out
            have c0 := HVZ.out.cell (j := 0) rfl
            have c1 := HVZ.out.cell (j := 1) rfl
            have hal : ∀ (o : Obj) (j : Nat), (wz.alloc o).cell? ⟨b1, j, none⟩ = wz.cell? ⟨b1, j, none⟩ := fun o j => ((Below.refl _ _).alloc (Nat.le_refl _) o).cell (p := ⟨b1, j, none⟩) (by show b1 < _; omega)
            have hag : ∀ (o : Obj) (j : Nat), (wz.alloc o).cell? ⟨g, j, none⟩ = wz.cell? ⟨g, j, none⟩ := fun o j => ((Below.refl _ _).alloc (Nat.le_refl _) o).cell (p := ⟨g, j, none⟩) (by show g < _; omega)
            clear HVZ HBX HBD HTD HTX q0 q1 q2 q3 q4 q5 q6 q7 q8 q9 q10 q11 hne
            cases hkn : known l x.A x.B k with
            | none =>
              have HBF : Hid (bad l k = false) := by show _ = _; rw [HBA.out, hkn]; simp
              rw [hkn] at c0 c1
              clear hkn
              go_wp2
              go_roundw
              case rel => exact ⟨k + 1, by omega, by go_num, HNB.out.succ HBF.out, by repeat (first | exact HBZ.out | refine below_new ?_ _ | refine below_set ?_ (by omega) _ | refine below_drew ?_)⟩
              case measure => simp [intOf]; omega
            | some v =>
              rw [hkn] at c0 c1
              simp only [Option.getD_some] at c0 c1
              by_cases hv1 : v.Kind = x.Old.Kind ∧ v.N = x.Old.N
              · have HBF : Hid (bad l k = false) := by
                  show _ = _
                  rw [HBA.out, hkn, HT.out]
                  have : v = x.Old := by cases v; cases h9 : x.Old; simp [h9] at hv1 ⊢; exact hv1
                  simp [this]
                obtain ⟨hv1, hv2⟩ := hv1
                rw [hv1] at c0
                rw [hv2] at c1
                clear hkn hv1 hv2
                go_wp2
                go_roundw
                case rel => exact ⟨k + 1, by omega, by go_num, HNB.out.succ HBF.out, by repeat (first | exact HBZ.out | refine below_new ?_ _ | refine below_set ?_ (by omega) _ | refine below_drew ?_)⟩
                case measure => simp [intOf]; omega
              · have HBF : Hid (bad l k = true) := by
                  show _ = _
                  rw [HBA.out, hkn, HT.out, HRW.out]
                  have : v ≠ x.Old := fun e => hv1 (by rw [e]; exact ⟨rfl, rfl⟩)
                  simp [this]
                have HWW := Lib.hid (wholeOf_at (by rw [HN.out]; exact hlt) HNB.out HBF.out)
                clear hkn
                by_cases hk1 : v.Kind = x.Old.Kind
                · have hn1 : ¬ v.N = x.Old.N := fun e => hv1 ⟨hk1, e⟩
                  rw [hk1] at c0
                  clear hv1 hk1
                  go_wp2
                  go_ret
                  rw [HWW.out]
                  exact ⟨rfl, by repeat (first | exact HBZ.out | refine below_new ?_ _ | refine below_set ?_ (by omega) _ | refine below_drew ?_)⟩
                · clear hv1
                  go_wp2
                  go_ret
                  rw [HWW.out]
                  exact ⟨rfl, by repeat (first | exact HBZ.out | refine below_new ?_ _ | refine below_set ?_ (by omega) _ | refine below_drew ?_)⟩
      · have HBF : Hid (bad l k = false) := by show _ = _; rw [HBA.out]; simp at hr; rw [hr]; rfl
        have h3 : x.Kind ≠ 3 ∧ x.Kind ≠ 4 := by simpa [isRW] using hr
        have d3 : (x.Kind != 3) = true := by simp [h3.1]
        have d4 : (x.Kind != 4) = true := by simp [h3.2]
        clear hr h3
        go_wp2
        go_roundw
        case rel => exact ⟨k + 1, by omega, by go_num, HNB.out.succ HBF.out, HB.out⟩
        case measure => simp [intOf]; omega
    · obtain rfl : k = n := by omega
      have HWW := Lib.hid (wholeOf_none (l := l) (fun j hj => HNB.out j (by rw [← HN.out]; exact hj)))
      go_wp2
      go_ret
      rw [HWW.out]
      exact ⟨rfl, HB.out⟩
end Go.Proofs.Ytfdpannanpipdaa.watch
