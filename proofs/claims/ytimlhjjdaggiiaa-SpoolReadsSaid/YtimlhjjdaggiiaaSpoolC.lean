/- One record, walked. -/
import Derived.Test.YtimlhjjdaggiiaaSpoolB
import Derived.Test.YtimlhjjdaggiiaaSpoolS
import Derived.Deep.RegionHeld3
set_option linter.unusedVariables false
set_option linter.unusedSimpArgs false
namespace Go.Proofs.Ytimlhjjdaggiiaa.spool
open Go.Bk Go.RowKit

/-- The value that a record tells. -/
def valOf (r : List UInt8) : Api.Val := ⟨((r.headD 0).toNat : Int), IntKind.i64.wrap (numOf ((r.take 9).drop 1) : Int)⟩
def oneOf (r : List UInt8) : Api.Val × Int :=
  if numOf (r.drop 9) ≠ sumOf (r.take 9) then (⟨0, 0⟩, 11) else if rightOf (valOf r) ≠ 0 then (⟨0, 0⟩, 3) else (valOf r, 0)

theorem below_cells {N : Nat} {w w' : World} (hb : Below N w w') : ∀ b o, b < N → w'.cell? ⟨b, o, none⟩ = w.cell? ⟨b, o, none⟩ := fun b o h => hb.cell (p := ⟨b, o, none⟩) h

theorem right_kn {w : World} (K N : Int) : Calls Try.prog 132 #[.agg #[.int .i64 K, .int .i64 N]] w fun e w' => e = .returned (.int .i64 (rightOf ⟨K, N⟩)) ∧ Below w.heap.size w w' := right_any (v := ⟨K, N⟩)

theorem cut_world {F : World → Prop} {W : World} (P : World → Prop) (hP : P W) (h : ∀ wz, P wz → F wz) : F W := h W hP

theorem number_at {S : Nat → Prop} {w : World} {a : Option Addr} {c n : Nat} {xs : List UInt8} (h : Arr S w a xs) (hn : xs.length = n) :
    Calls Try.prog 130 #[.slice a n c] w fun e w' => e = .returned (.int .u64 (numOf xs)) ∧ Quiet w w' := hn ▸ number_any h
theorem sum_at {S : Nat → Prop} {w : World} {a : Option Addr} {c n : Nat} {xs : List UInt8} (h : Arr S w a xs) (hn : xs.length = n) :
    Calls Try.prog 131 #[.slice a n c] w fun e w' => e = .returned (.int .u32 (sumOf xs)) ∧ Quiet w w' := hn ▸ sum_any h

set_option maxRecDepth 100000 in
set_option maxHeartbeats 1000000 in
theorem one_any {S : Nat → Prop} {w : World} {b off c : Nat} {xs : List UInt8} (h : Arr S w (some ⟨b, off, none⟩) xs) (hl : xs.length = 13) (hc : 13 ≤ c) (hb : b < w.heap.size) (hS : ∀ b, S b → b < w.heap.size) (hSb : S b) :
    Calls Try.prog 80 #[.slice (some ⟨b, off, none⟩) 13 c] w fun e w' =>
      e = .returned (.tuple #[.agg #[.int .i64 (oneOf xs).1.Kind, .int .i64 (oneOf xs).1.N], .int .i64 (oneOf xs).2]) ∧ Below w.heap.size w w' := by
  have h9 : Arr S w (some ⟨b, off + 9, none⟩) (xs.drop 9) := h.tail_at 9 b off rfl hSb
  have t9 : Arr S w (some ⟨b, off, none⟩) (xs.take 9) := h.take 9
  have d1 : Arr S w (some ⟨b, off + 1, none⟩) ((xs.take 9).drop 1) := t9.tail_at 1 b off rfl hSb
  have l9 : (xs.drop 9).length = 4 := by simp [hl]
  have m9 : (xs.take 9).length = 9 := by simp [hl]
  have m1 : ((xs.take 9).drop 1).length = 8 := by simp [hl]
  obtain ⟨y, hy⟩ : ∃ y, xs[0]? = some y := ⟨_, List.getElem?_eq_getElem (by omega)⟩
  obtain ⟨b1, o1, he, -, q0⟩ := arr_byte h hy
  obtain ⟨rfl, rfl⟩ : b = b1 ∧ off = o1 := by simpa using he
  have hc9 : (9 : Int) ≤ c := by omega
  have hk9 : ∀ (o : Obj) (n : Nat), Arr S ((w.alloc o).drewN n) (some ⟨b, off + 9, none⟩) (xs.drop 9) := fun o n => h9.keep (fun b hb => ((Below.refl w.heap.size w).alloc (Nat.le_refl _) o).block b (hS b hb))
  have kt9 : ∀ (o : Obj) (n : Nat), Arr S ((w.alloc o).drewN n) (some ⟨b, off, none⟩) (xs.take 9) := fun o n => t9.keep (fun b hb => ((Below.refl w.heap.size w).alloc (Nat.le_refl _) o).block b (hS b hb))
  have f9 := sum_lt (xs.take 9)
  have HY := Lib.hid hy
  clear h9 t9 h hy he
  go_enter Try.func80, Try.ntmps80
  go_wp2_with fail
  first | (refine wp_region_quiet_lit (by kernel_rfl) (by kernel_rfl) ?_; (repeat (go_big_quiet_step ((first | (go_at_call 130; exact quiet_of (number_at (hk9 _ _) l9)) | (go_at_call 131; exact quiet_of (sum_at (kt9 _ _) m9)))))); refine wpQuiet_nil ?_; intro _ hw'; obtain ⟨nq, hw''⟩ := hw'; subst hw'')
  clear hk9 kt9
  by_cases heq : numOf (xs.drop 9) = sumOf (xs.take 9)
  · have HQ := Lib.hid heq
    rw [heq]
    have hee : ((sumOf (xs.take 9) : Int) != sumOf (xs.take 9)) = false := by simp
    generalize hwq : (w.alloc _).drewN nq = wq
    have hb0 : Below w.heap.size w wq := hwq ▸ Go.Bk.Below.drewN ((Below.refl _ _).alloc (Nat.le_refl _) _) _
    have hs0 : wq.heap.size = w.heap.size + 1 := by rw [← hwq]; simp
    have p0 : wq.cell? ⟨w.heap.size, 0, none⟩ = some (.int .i64 0) := by rw [← hwq]; simp
    have p1 : wq.cell? ⟨w.heap.size, 1, none⟩ = some (.int .i64 0) := by rw [← hwq]; simp
    have z0 : wq.frozen? ⟨w.heap.size, 0, none⟩ = false := by rw [← hwq]; simp
    have z1 : wq.frozen? ⟨w.heap.size, 1, none⟩ = false := by rw [← hwq]; simp
    have q0 : wq.cell? ⟨b, off, none⟩ = some (.int .u8 y.toNat) := (hb0.cell (p := ⟨b, off, none⟩) hb).trans q0
    have d2 : Arr S wq (some ⟨b, off + 1, none⟩) ((xs.take 9).drop 1) := d1.keep (fun b hb => hb0.block b (hS b hb))
    have hc1 : (1 : Int) ≤ c := by omega
    clear hwq d1 heq
    go_wp2
    have hcn : ¬ c = 1 := by omega
    have k0 : Arr S wq.drew (some ⟨b, off + 1, none⟩) ((xs.take 9).drop 1) := Arr.keep (w := wq) (fun b _ => rfl) d2
    have ka : ∀ o, Arr S (wq.drew.alloc o) (some ⟨b, off + 1, none⟩) ((xs.take 9).drop 1) := fun o => d2.keep (fun b hb => ((Below.refl wq.heap.size wq).drew.alloc (Nat.le_refl _) o).block b (by have := hS b hb; omega))
    have hnew : ¬ (w.heap.size + 1 = b) := by omega
    go_region_held3 (fun w' => w'.cell? ⟨b, off, none⟩ = some (.int .u8 y.toNat)) (go_keep) (first | (go_at_call 130; refine (number_at k0 m1).mono ?_; rintro e w1 ⟨rfl, ⟨m, rfl⟩⟩) | (go_at_call 130; refine (number_at (ka _) m1).mono ?_; rintro e w1 ⟨rfl, ⟨m, rfl⟩⟩))
    all_goals
      refine cut_world (fun wz => Below w.heap.size w wz ∧ wz.heap.size = w.heap.size + 2 ∧ wz.cell? ⟨w.heap.size, 0, none⟩ = some (.int .i64 0) ∧ wz.cell? ⟨w.heap.size, 1, none⟩ = some (.int .i64 0) ∧
        wz.frozen? ⟨w.heap.size, 0, none⟩ = false ∧ wz.frozen? ⟨w.heap.size, 1, none⟩ = false ∧ wz.cell? ⟨w.heap.size + 1, 0, none⟩ = some (.int .i64 (IntKind.i64.wrap y.toNat)) ∧ wz.cell? ⟨w.heap.size + 1, 1, none⟩ = some (.int .i64 (IntKind.i64.wrap (numOf (xs.take 9).tail)))) ?_ ?_
      case refine_1 =>
        have hn1 : ¬ (wq.heap.size = w.heap.size) := by omega
        refine ⟨?_, ?_, ?_, ?_, ?_, ?_, ?_, ?_⟩
        · first | exact (Go.Bk.Below.drewN hb0 _).alloc hb0.size _ | exact ((Go.Bk.Below.drewN (hb0.alloc hb0.size _) _).setCell (by simp) _).setCell (by simp) _
        · simp [hs0]
        all_goals first
          | (simp [← hs0, hn1, p0, p1, z0, z1, World.cell?_alloc_some, World.cell?_setCell_far]; done)
          | (simp [World.frozen?_alloc_old, z0, z1, hs0]; done)
          | (simp [World.cell?_alloc_at, hs0]; done)
          | (simp [← hs0, World.cell?_setCell_other, World.cell?_setCell_same']; done)
      case refine_2 =>
        rintro wz ⟨g0, g1, g2, g3, g4, g5, g6, g7⟩
        clear hb0 hs0 p0 p1 z0 z1 q0 d2 k0 ka
        have hy8 := y.toNat_lt
        have hK : IntKind.i64.wrap (y.toNat : Int) = y.toNat := IntWalk.i64_in _ (by omega)
        have HV : Hid (valOf xs = ⟨y.toNat, IntKind.i64.wrap (numOf (xs.take 9).tail)⟩) := by
          show valOf xs = _
          unfold valOf
          have e1 : xs.headD 0 = y := by rw [List.headD_eq_head?_getD, List.head?_eq_getElem?, HY.out]; rfl
          rw [e1, List.drop_one]
        rw [hK] at g6 ⊢
        generalize IntKind.i64.wrap (numOf (xs.take 9).tail : Int) = N0 at g7 HV ⊢
        generalize (y.toNat : Int) = K0 at g6 HV ⊢
        clear hK hy8
        go_wp2_with fail
        refine Calls.mono (right_kn K0 N0) ?_
        rintro e w3 ⟨rfl, hb3⟩
        have c3 := below_cells hb3
        have s3 := hb3.size
        have HB := Lib.hid (g0.trans (hb3.mono (by omega)))
        have u2 := (c3 w.heap.size 0 (by omega)).trans g2
        have u3 := (c3 w.heap.size 1 (by omega)).trans g3
        have u6 := (c3 (w.heap.size + 1) 0 (by omega)).trans g6
        have u7 := (c3 (w.heap.size + 1) 1 (by omega)).trans g7
        have bl := hb3.block w.heap.size (by omega)
        have u4 : w3.frozen? ⟨w.heap.size, 0, none⟩ = false := by rw [← g4]; unfold World.frozen?; rw [bl]
        have u5 : w3.frozen? ⟨w.heap.size, 1, none⟩ = false := by rw [← g5]; unfold World.frozen?; rw [bl]
        clear hb3 c3 s3 bl g0 g1 g2 g3 g4 g5 g6 g7
        by_cases hr : rightOf ⟨K0, N0⟩ = 0
        · have HE : Hid (oneOf xs = (⟨K0, N0⟩, 0)) := by
            show oneOf xs = _
            unfold oneOf
            rw [if_neg (by simp [HQ.out]), HV.out, if_neg (by simp [hr])]
          have hee : (rightOf ⟨K0, N0⟩ != 0) = false := by simp [hr]
          clear hr
          go_wp2
          refine bodyPost_ret (v := .tuple #[.agg #[.int .i64 K0, .int .i64 N0], .int .i64 0]) (by simp [results, Try.results80, go_sem, u2, u3, u4, u5]) rfl ⟨by rw [HE.out], (HB.out.setCell (Nat.le_refl _) _).setCell (Nat.le_refl _) _⟩
        · have HE : Hid (oneOf xs = (⟨0, 0⟩, 3)) := by
            show oneOf xs = _
            unfold oneOf
            rw [if_neg (by simp [HQ.out]), HV.out, if_pos hr]
          have hee : (rightOf ⟨K0, N0⟩ != 0) = true := by simp [hr]
          clear hr
          go_wp2
          refine bodyPost_ret (v := .tuple #[.agg #[.int .i64 0, .int .i64 0], .int .i64 3]) (by simp [results, Try.results80, go_sem, u2, u3, u4, u5]) rfl ⟨by rw [HE.out], (HB.out.setCell (Nat.le_refl _) _).setCell (Nat.le_refl _) _⟩
  · have hee : ((numOf (xs.drop 9) : Int) != sumOf (xs.take 9)) = true := by simp; omega
    have HE : Hid (oneOf xs = (⟨0, 0⟩, 11)) := by unfold oneOf; exact if_pos heq
    clear heq d1 q0 hl
    go_wp2
    refine bodyPost_ret (v := .tuple #[.agg #[.int .i64 0, .int .i64 0], .int .i64 11]) (by simp [results, Try.results80, go_sem]) rfl ⟨by rw [HE.out], ?_⟩
    exact ((Go.Bk.Below.drewN ((Below.refl _ _).alloc (Nat.le_refl _) _) _).setCell (Nat.le_refl _) _).setCell (Nat.le_refl _) _
end Go.Proofs.Ytimlhjjdaggiiaa.spool
