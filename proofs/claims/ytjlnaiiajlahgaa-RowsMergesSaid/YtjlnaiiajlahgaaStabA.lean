/- slices.SortStableFunc at events: what its bodies ask of a program; swapRangeCmpFunc, rotateCmpFunc, walked over whatever program bears them (elements of k cells). -/
import Derived.Test.YtjlnaiiajlahgaaStabPlain
import Derived.Test.YtjlnaiiajlahgaaFuncsG
import Derived.Shelf.SlSortCmp.KitK
set_option linter.unusedVariables false
set_option linter.unusedSimpArgs false
namespace Go.Proofs.Ytjlnaiiajlahgaa.stab
open Go.Bk Go.RowKit Go.Sort Go.Shelf Go.Lib Go.Bk.Stab Go.Proofs

/-- What the walks ask of the program. -/
structure MLay (P : Program) (k : Nat) : Prop where
  mixed : P.follows .mixedOrders = true
  fStable : P.funcs[58]? = some Try.f58
  fIns : P.funcs[62]? = some Try.f62
  fSym : P.funcs[63]? = some Try.f63
  fRot : P.funcs[74]? = some Try.f74
  fSwap : P.funcs[80]? = some Try.f80
  eIns : ∀ args w, (callFunc 62 args).run P w = .ok (.enter 62 args) w
  eSym : ∀ args w, (callFunc 63 args).run P w = .ok (.enter 63 args) w
  eRot : ∀ args w, (callFunc 74 args).run P w = .ok (.enter 74 args) w
  eSwap : ∀ args w, (callFunc 80 args).run P w = .ok (.enter 80 args) w
  t3 : P.underlying 3 = some (TypeDesc.int IntKind.i64)
  a3 : ∀ w, (isAgg 3).run P w = .ok false w
  z3 : ∀ w, (Go.sizeOf 3).run P w = .ok 1 w
  v3 : ∀ w, (zeroValue 3).run P w = .ok (Value.int IntKind.i64 0) w
  t4 : P.underlying 4 = some (TypeDesc.bool)
  a4 : ∀ w, (isAgg 4).run P w = .ok false w
  z4 : ∀ w, (Go.sizeOf 4).run P w = .ok 1 w
  t22 : P.underlying 40 = some (TypeDesc.slice 81)
  a22 : ∀ w, (isAgg 40).run P w = .ok false w
  z22 : ∀ w, (Go.sizeOf 40).run P w = .ok 1 w
  t25 : P.underlying 82 = some (TypeDesc.func #[81, 81] #[3] false)
  a25 : ∀ w, (isAgg 82).run P w = .ok false w
  z25 : ∀ w, (Go.sizeOf 82).run P w = .ok 1 w
  t26 : P.underlying 106 = some (TypeDesc.int IntKind.u64)
  a26 : ∀ w, (isAgg 106).run P w = .ok false w
  z26 : ∀ w, (Go.sizeOf 106).run P w = .ok 1 w
  aE : ∀ w, (isAgg 81).run P w = .ok true w
  zE : ∀ w, (Go.sizeOf 81).run P w = .ok k w
section
variable {P : Program} {α : Type} [Inhabited α] {enc : α → List Value} {k : Nat} {w0 : World} {blk off : Nat} {d0 : Array α}
set_option maxRecDepth 1000000 in
set_option maxHeartbeats 4000000 in
theorem swapRange_any (L : MLay P k) (R : RowK enc k w0 blk off d0) {W : World} {d : Array α} {N cap a b n : Nat} (fv : Value) (hw : SWK enc k w0 blk off d W) (hs : d.size = N) (h0 : d0.size = N) (hab : a + n ≤ b) (hb : b + n ≤ N) (hN : N ≤ 1000000) :
    Calls P 80 #[.slice (some ⟨blk, off, none⟩) N cap, .int .i64 a, .int .i64 b, .int .i64 n, fv] W fun e w' =>
      e = .returned (.tuple #[]) ∧ ∃ d', SWK enc k w0 blk off d' w' ∧ d'.size = N ∧ ∀ t, t < N → d'[t]! = d[swapI a b n t]! := by
  have mixed := L.mixed; have t3 := L.t3; have a3 := L.a3; have z3 := L.z3; have v3 := L.v3; have t4 := L.t4; have a4 := L.a4; have z4 := L.z4; have t22 := L.t22; have a22 := L.a22; have z22 := L.z22; have aE := L.aE; have zE := L.zE
  have u22 := run_underlying L.t22
  have HW : Hid (SWK enc k w0 blk off d W ∧ d.size = N ∧ d0.size = N) := ⟨hw, hs, h0⟩
  have FS := L.fSwap
  clear hw hs h0
  have HF : Aside _ := FS
  have HR : Aside _ := R
  clear L R
  go_enter HF.out, Try.ntmps80
  clear FS
  go_wp2
  go_loopw [10] (fun v w' => ∃ (i : Nat) (dk : Array α), i ≤ n ∧ v = .int .i64 i ∧ SWK enc k w0 blk off dk w' ∧ dk.size = N ∧ ∀ t, t < N → dk[t]! = d[swapI a b i t]!) (fun i _ => n - (intOf i).toNat)
  case atStart => exact ⟨0, d, Nat.zero_le _, rfl, HW.out.1, HW.out.2.1, fun t _ => by unfold swapI; rw [if_neg (by omega), if_neg (by omega)]⟩
  case round =>
  obtain ⟨i, dk, hi, rfl, hsw, hsk, hdk⟩ := hrel
  by_cases hin : i < n
  · have hinz : (i : Int) < (n : Int) := by omega
    have ea : ((a : Int) + (i : Int)).toNat = a + i := by omega
    have eb : ((b : Int) + (i : Int)).toNat = b + i := by omega
    have pa : (0 : Int) ≤ (a : Int) + (i : Int) := by omega
    have pb : (0 : Int) ≤ (b : Int) + (i : Int) := by omega
    have ja : (a : Int) + (i : Int) < (N : Int) := by omega
    have jb : (b : Int) + (i : Int) < (N : Int) := by omega
    have lA := hsw.ld1 HR (hsk.trans HW.out.2.2.symm) P (a + i) (by omega)
    have lB := hsw.ld1 HR (hsk.trans HW.out.2.2.symm) P (b + i) (by omega)
    have s1 := hsw.st1 HR (hsk.trans HW.out.2.2.symm) P (a + i) (by omega) dk[b + i]!
    have s2 := hsw.st2 HR (hsk.trans HW.out.2.2.symm) P (a + i) (b + i) (by omega) (by omega) dk[b + i]! dk[a + i]!
    have HS := Lib.hid (hsw.swapped HR (a + i) (b + i) (by omega) (by omega))
    have HD := Lib.hid hdk
    have HK := Lib.hid hsk
    have lenA : (enc dk[a + i]!).length = k := (Aside.out HR).hk _
    have lenB : (enc dk[b + i]!).length = k := (Aside.out HR).hk _
    obtain ⟨cA, hcA⟩ : ∃ c, c = enc dk[a + i]! := ⟨_, rfl⟩
    obtain ⟨cB, hcB⟩ : ∃ c, c = enc dk[b + i]! := ⟨_, rfl⟩
    rw [← hcA] at lA s2 lenA
    rw [← hcB] at lB s1 s2 lenB
    rw [← hcA, ← hcB] at HS
    clear hcA hcB hsw hdk hsk
    go_wp2_with fail
    go_big_region_o
    all_goals go_wp2
    go_roundw
    case rel =>
      refine ⟨i + 1, swp dk (a + i) (b + i), by omega, by go_num, HS.out, by rw [size_swp]; exact HK.out, fun t ht => ?_⟩
      have hkk := HK.out
      rw [get_swp dk (by omega) (by omega) (by omega), HD.out (b + i) (by omega), HD.out (a + i) (by omega), HD.out t ht]
      unfold swapI
      (repeat' split) <;> first | (exfalso; omega) | (congr 1 <;> omega)
    case measure => simp [intOf]; omega
  · have hinz : ¬ (i : Int) < (n : Int) := by omega
    go_wp2
    go_end0
    refine ⟨rfl, dk, hsw, hsk, ?_⟩
    rw [show i = n by omega] at hdk
    exact hdk
set_option maxRecDepth 1000000 in
set_option maxHeartbeats 4000000 in
theorem rotate_any (L : MLay P k) (R : RowK enc k w0 blk off d0) {W : World} {d : Array α} {N cap a m b : Nat} (fv : Value) (hw : SWK enc k w0 blk off d W) (hs : d.size = N) (h0 : d0.size = N) (ham : a < m) (hmb : m < b) (hb : b ≤ N) (hN : N ≤ 1000000) :
    Calls P 74 #[.slice (some ⟨blk, off, none⟩) N cap, .int .i64 a, .int .i64 m, .int .i64 b, fv] W fun e w' =>
      e = .returned (.tuple #[]) ∧ ∃ d', SWK enc k w0 blk off d' w' ∧ d'.size = N ∧ ∀ t, t < N → d'[t]! = d[rotI a m b t]! := by
  have mixed := L.mixed; have t3 := L.t3; have a3 := L.a3; have z3 := L.z3; have v3 := L.v3; have t4 := L.t4; have a4 := L.a4; have z4 := L.z4; have t22 := L.t22; have a22 := L.a22; have z22 := L.z22; have aE := L.aE; have zE := L.zE
  have HC : Hid (∀ (W : World) (dk : Array α) (A B n : Nat), SWK enc k w0 blk off dk W → dk.size = N → A + n ≤ B → B + n ≤ N → Calls P 80 #[.slice (some ⟨blk, off, none⟩) N cap, .int .i64 A, .int .i64 B, .int .i64 n, fv] W fun e w' =>
      e = .returned (.tuple #[]) ∧ ∃ d', SWK enc k w0 blk off d' w' ∧ d'.size = N ∧ ∀ t, t < N → d'[t]! = dk[swapI A B n t]!) := fun W dk A B n h1 h2 h3 h4 => swapRange_any L R fv h1 h2 h0 h3 h4 hN
  have L0 : Aside _ := L
  have HF : Aside _ := L.fRot
  have HW : Hid (SWK enc k w0 blk off d W ∧ d.size = N) := ⟨hw, hs⟩
  clear L R hw hs h0
  have eg := L0.out.eSwap
  clear L0
  obtain ⟨i0, hi0⟩ : ∃ i0, i0 = m - a := ⟨_, rfl⟩
  obtain ⟨j0, hj0⟩ : ∃ j0, j0 = b - m := ⟨_, rfl⟩
  have e1 : (m : Int) - (a : Int) = (i0 : Int) := by omega
  have e2 : (b : Int) - (m : Int) = (j0 : Int) := by omega
  have HI0 := Lib.hid hi0; have HJ0 := Lib.hid hj0
  clear hi0 hj0
  go_enter HF.out, Try.ntmps74
  go_wp2_with fail
  clear e1 e2
  go_loopw [10, 11] (fun v v2 w' => ∃ (i j : Nat) (dk : Array α), 1 ≤ i ∧ 1 ≤ j ∧ i ≤ i0 ∧ j ≤ j0 ∧ v = .int .i64 i ∧ v2 = .int .i64 j ∧ SWK enc k w0 blk off dk w' ∧ dk.size = N ∧ ∀ t, t < N → dk[rotI (m - i) m (m + j) t]! = d[rotI a m b t]!) (fun i j _ => (intOf i).toNat + (intOf j).toNat)
  case atStart =>
    have := HI0.out; have := HJ0.out
    exact ⟨i0, j0, d, by omega, by omega, Nat.le_refl _, Nat.le_refl _, rfl, rfl, HW.out.1, HW.out.2, fun t _ => by rw [show m - i0 = a by omega, show m + j0 = b by omega]⟩
  case round =>
  obtain ⟨i, j, dk, hi1, hj1, hi, hj, rfl, rfl, hsw, hsk, hdk⟩ := hrel
  clear HW
  have him : i ≤ m := by have := HI0.out; omega
  have hjm : m + j ≤ b := by have := HJ0.out; omega
  obtain ⟨c, hc⟩ : ∃ c, c = m - i := ⟨_, rfl⟩
  have em : (m : Int) - (i : Int) = (c : Int) := by omega
  have HCc := Lib.hid hc
  have HDK := Lib.hid hdk
  have hcm : c + i = m := by omega
  have HCM := Lib.hid hcm
  clear hdk hc
  by_cases hij : i = j
  · subst hij
    have hne : (i != i) = false := by simp
    have hne2 : ((i : Int) != (i : Int)) = false := by simp
    have HK := Lib.hid (HC.out wr dk c m i hsw hsk (by omega) (by omega))
    clear hsw hsk hcm
    go_wp2_with (go_at_call 80; (with_reducible refine HK.out.mono ?_); rintro e w7 ⟨rfl, d', h1, h2, h3⟩; have H1 := Lib.hid h1; have H2 := Lib.hid h2; have H3 := Lib.hid h3; clear h1 h2 h3)
    go_end0
    refine ⟨rfl, d', H1.out, H2.out, fun t ht => ?_⟩
    rw [H3.out t ht, ← HDK.out t ht, HCc.out, swap_rot0 (by omega)]
  have hne : ((i : Int) != (j : Int)) = true := by simp; omega
  have hne2 : (i != j) = true := by simp; omega
  rcases Nat.lt_or_gt_of_ne hij with hlt | hgt
  · have d1 : decide ((j : Int) < (i : Int)) = false := decide_eq_false (by omega)
    have d2 : decide (j < i) = false := decide_eq_false (by omega)
    obtain ⟨c2, hc2⟩ : ∃ c2, c2 = m + j - i := ⟨_, rfl⟩
    obtain ⟨j2, hj2⟩ : ∃ j2, j2 = j - i := ⟨_, rfl⟩
    have em2 : (m : Int) + (j : Int) - (i : Int) = (c2 : Int) := by omega
    have em3 : (j : Int) - (i : Int) = (j2 : Int) := by omega
    have HK := Lib.hid (HC.out wr dk c c2 i hsw hsk (by omega) (by omega))
    have HC2 := Lib.hid hc2; have HJ2 := Lib.hid hj2
    clear hsw hsk hcm hc2 hj2 hij
    go_wp2_with (go_at_call 80; (with_reducible refine HK.out.mono ?_); rintro e w7 ⟨rfl, d', h1, h2, h3⟩; have H1 := Lib.hid h1; have H2 := Lib.hid h2; have H3 := Lib.hid h3; clear h1 h2 h3)
    have := HJ2.out; have := HC2.out
    go_roundw
    case rel =>
      refine ⟨i, j2, d', hi1, by omega, hi, by omega, rfl, rfl, H1.out, H2.out, fun t ht => ?_⟩
      rw [← HDK.out t ht, H3.out _ (by unfold rotI; (repeat' split) <;> omega), HJ2.out, HCc.out, HC2.out, swap_rot2 hlt him]
    case measure => simp [intOf]; omega
  · have d1 : decide ((j : Int) < (i : Int)) = true := decide_eq_true (by omega)
    have d2 : decide (j < i) = true := decide_eq_true (by omega)
    obtain ⟨i2, hi2⟩ : ∃ i2, i2 = i - j := ⟨_, rfl⟩
    have em3 : (i : Int) - (j : Int) = (i2 : Int) := by omega
    have HK := Lib.hid (HC.out wr dk c m j hsw hsk (by omega) (by omega))
    have HI2 := Lib.hid hi2
    clear hsw hsk hcm hi2 hij
    go_wp2_with (go_at_call 80; (with_reducible refine HK.out.mono ?_); rintro e w7 ⟨rfl, d', h1, h2, h3⟩; have H1 := Lib.hid h1; have H2 := Lib.hid h2; have H3 := Lib.hid h3; clear h1 h2 h3)
    have := HI2.out
    go_roundw
    case rel =>
      refine ⟨i2, j, d', by omega, hj1, by omega, hj, rfl, rfl, H1.out, H2.out, fun t ht => ?_⟩
      rw [← HDK.out t ht, H3.out _ (by unfold rotI; (repeat' split) <;> omega), HI2.out, HCc.out, swap_rot1 hgt him]
    case measure => simp [intOf]; omega
end
end Go.Proofs.Ytjlnaiiajlahgaa.stab
