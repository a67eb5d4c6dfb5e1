/- listed, walked. -/
import Derived.Test.YtfdpannanpipdaaSliceDb
import Derived.Test.YtfdpannanpipdaaFuncsB
set_option linter.unusedVariables false
set_option linter.unusedSimpArgs false
namespace Go.Proofs.Ytfdpannanpipdaa.slice
open Go.Bk Go.RowKit

set_option maxRecDepth 100000 in
theorem listedFn_any {S : Nat → Prop} {w : World} {a : Option Addr} {c g i : Nat} {bs : List Bool} (h : Arr S w a bs) (hc : w.cell? ⟨g, 0, none⟩ = some (.int .i64 i)) (hi : i < bs.length) :
    Calls Try.prog 164 #[.slice a bs.length c, .pointer (some ⟨g, 0, none⟩)] w fun e w' => e = .returned (.bool (!(bs.getD i false))) ∧ Quiet w w' := by
  have hm := h.small
  unfold maxLen at hm
  obtain ⟨b, hb⟩ : ∃ b, bs[i]? = some b := ⟨_, List.getElem?_eq_getElem hi⟩
  obtain ⟨b1, o1, rfl, -, q1⟩ := arr_bool h hb
  have HB : Hid (bs.getD i false = b) := by show _ = _; rw [List.getD_eq_getElem?_getD, hb]; rfl
  clear h hb
  go_enter Try.func164, Try.ntmps164
  go_wp2
  go_ret
  exact ⟨by rw [HB.out]; rfl, Quiet.refl _⟩

def listRel (w : World) (n : Nat) (sets : List (List Bool)) (out i : Value) (w' : World) : Prop :=
  ∃ q : Nat, q ≤ n ∧ i = .int .i64 q ∧ Own (fun _ => False) w' w.heap.size 3 out (listedOf q sets) ∧ Below w.heap.size w w'

set_option maxRecDepth 100000 in
set_option maxHeartbeats 1000000 in
theorem listed_any {S : Nat → Prop} {w : World} {a : Option Addr} {c n ns : Nat} {sets : List (List Bool)} (h : Arr S w a sets) (hS : ∀ b, S b → b < w.heap.size) (hn : n ≤ 200) (hl : ∀ s ∈ sets, s.length = n) (hns : sets.length = ns) :
    Calls Try.prog 153 #[.int .i64 n, .slice a ns c] w (RetL w (listedOf n sets)) := by
  subst hns
  have HLn := Lib.hid hl
  clear hl
  go_enter Try.func153, Try.ntmps153
  go_wp2
  go_loopw [4, 7] (listRel w n sets) (fun _ i _ => n - (intOf i).toNat)
  case atStart => exact ⟨0, Nat.zero_le _, rfl, Own.nil _ _ _ _, Below.refl _ _⟩
  case round =>
    obtain ⟨q, hq, rfl, ho, hb⟩ := hrel
    have HO := Lib.hid ho; have HB := Lib.hid hb
    have hbs := hb.size
    clear ho hb
    by_cases hlt : q < n
    · go_wp2_with fail
      refine cut_calls (fun wz => Grow wr wz ∧ wr.heap.size < wz.heap.size ∧ wz.cell? ⟨wr.heap.size, 0, none⟩ = some (.int .i64 q)) ?_ ?_
      · exact ⟨(Below.refl _ _).alloc (Nat.le_refl _) _, by simp, by simp⟩
      rintro wz ⟨hbz, hsz, hcz⟩
      have hS2 : ∀ b, S b → b < wz.heap.size := fun b hb => by have := hS b hb; omega
      have hsets : Arr S wz a sets := h.keep (fun b hb => by rw [hbz.block b (by have := hS b hb; omega), HB.out.block b (hS b hb)])
      have HC := Lib.hid (containsFuncB_any (c := c) (p := fun s => !(s.getD q false)) (F := 164) (caps := #[.pointer (some ⟨wr.heap.size, 0, none⟩)]) mild_quiet hsets hS2 (fun y w => Try.call164 _ _) (fun y a' c' wx hy ha hq => listedFn_any ha ((hq.cell _).trans hcz) (by rw [HLn.out y hy]; exact hlt)))
      have hany : (sets.any fun s => !(s.getD q false)) = !(sets.all fun s => s.getD q false) := by rw [List.not_all_eq_any_not]
      have HS := Lib.hid (listedOf_succ q sets)
      rw [hany] at HC
      have HB2 := Lib.hid (HB.out.trans (hbz.mono hbs))
      have HO2 := Lib.hid (HO.out.below hbz (fun _ h => h.elim))
      have HCZ := Lib.hid hcz
      clear hbz hsets hany hcz
      refine HC.out.mono ?_
      rintro e w3 ⟨rfl, hq3⟩
      have HB3 := Lib.hid (HB2.out.trans (hq3.below _))
      have HO3 := Lib.hid (HO2.out.below (hq3.below _) (fun _ h => h.elim))
      have c3 := (hq3.cell ⟨wr.heap.size, 0, none⟩).trans HCZ.out
      have hs3 := (hq3.below 0).size
      have hll := listedOf_len q sets
      clear hq3 HC HB2 HO2 HCZ
      generalize (sets.all fun s => s.getD q false) = ok at *
      cases ok with
      | false =>
        go_wp2
        go_roundw
        case rel => exact ⟨q + 1, by omega, by go_num, by rw [HS.out]; simpa using HO3.out, HB3.out⟩
        case measure => simp [intOf] <;> omega
      | true =>
        have hcell : ∀ w : World, Rep.cells (fun _ => False) w [.int .i64 (q : Int)] (q : Int) := fun w => cells_int (by unfold I64; omega)
        go_wp2_with (at_builtin; with_reducible refine Try.wp_app30 rfl rfl rfl rfl rfl (by first | rfl | simp) (HO3.out) (hcell _) (fun _ h => h.elim) (by omega) (by first | omega | (simp; omega)) fun v' w' hown' hg' => ?_)
        have HN' := Lib.hid hown'
        have HB' := Lib.hid (HB3.out.grown hg' (by omega) (fun k hk => (HO3.out.lt k hk).1))
        clear hown' hg'
        go_roundw
        case rel => exact ⟨q + 1, by omega, by go_num, by rw [HS.out]; simpa using HN'.out, HB'.out⟩
        case measure => simp [intOf] <;> omega
    · obtain rfl : q = n := by omega
      obtain ⟨av, cap, rfl, hcap, hnil, harr⟩ := own_fresh HO.out
      have HAR := Lib.hid harr
      clear harr
      go_wp2
      go_ret
      exact .mk HB.out HAR.out hcap hnil
end Go.Proofs.Ytfdpannanpipdaa.slice
