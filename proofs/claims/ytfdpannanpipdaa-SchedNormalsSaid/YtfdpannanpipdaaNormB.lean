/- SchedNormals: the table is asked, both tests of words; the search in a sorted row: walked. -/
import Derived.Test.YtfdpannanpipdaaNormA
set_option linter.unusedVariables false
set_option linter.unusedSimpArgs false
namespace Go.Proofs.Ytfdpannanpipdaa.norm
open Go.Bk Go.RowKit

theorem checkFn_any {w : World} {x : Int} {a : Option Addr} {n c g : Nat} (hc : w.cell? ⟨g, 0, none⟩ = some (.slice a n c)) :
    Calls Try.prog 127 #[.int .i64 x, .pointer (some ⟨g, 0, none⟩)] w fun e w' => e = .returned (.bool (!(decide (0 ≤ x) && decide (x < (n : Int))))) ∧ Quiet w w' := by
  by_cases h0 : x < 0
  · have hd : decide (x < 0) = true := by simp [h0]
    have HE : Hid ((!(decide (0 ≤ x) && decide (x < (n : Int)))) = true) := by show _ = _; simp; omega
    clear h0
    go_enter Try.func127, Try.ntmps127
    go_wp2
    go_ret
    exact ⟨by rw [HE.out]; rfl, Quiet.refl _⟩
  · have hd : decide (x < 0) = false := by simpa using h0
    by_cases h1 : (n : Int) ≤ x
    · have hd1 : decide ((n : Int) ≤ x) = true := by simp [h1]
      have HE : Hid ((!(decide (0 ≤ x) && decide (x < (n : Int)))) = true) := by show _ = _; simp; omega
      clear h0 h1
      go_enter Try.func127, Try.ntmps127
      go_wp2
      go_ret
      exact ⟨by rw [HE.out]; rfl, Quiet.refl _⟩
    · have hd1 : decide ((n : Int) ≤ x) = false := by simpa using h1
      have HE : Hid ((!(decide (0 ≤ x) && decide (x < (n : Int)))) = false) := by show _ = _; simp; omega
      clear h0 h1
      go_enter Try.func127, Try.ntmps127
      go_wp2
      go_ret
      exact ⟨by rw [HE.out]; rfl, Quiet.refl _⟩

set_option maxRecDepth 100000 in
theorem check_any {S S2 : Nat → Prop} {w : World} {a a2 : Option Addr} {c c2 n n2 : Nat} {l : List Int} {dep : List (List Bool)} (hn : l.length = n) (hn2 : dep.length = n2) (h : Arr S w a l) (h2 : Arr S2 w a2 dep) (hS : ∀ b, S b → b < w.heap.size) (hS2 : ∀ b, S2 b → b < w.heap.size) :
    Calls Try.prog 100 #[.slice a n c, .slice a2 n2 c2] w fun e w' => e = .returned (.int .i64 (depErr l dep)) ∧ Below w.heap.size w w' := by
  obtain ⟨G, hG⟩ : ∃ G, depErr l dep = G := ⟨_, rfl⟩
  rw [hG]
  have HG := Lib.hid hG
  have HN := Lib.hid hn; have HN2 := Lib.hid hn2
  clear hG hn hn2
  by_cases hl : 200 < n ∨ 12 < n2
  · have HE := Lib.hid (depErr_large (l := l) (dep := dep) (by rw [HN.out, HN2.out]; exact hl))
    by_cases hl1 : 200 < n
    · go_enter Try.func100, Try.ntmps100
      go_wp2_with fail
      go_ret
      exact ⟨by rw [← HG.out, HE.out]; rfl, (Below.refl _ _).alloc (Nat.le_refl _) _⟩
    · have hl2 : 12 < n2 := by omega
      clear hl
      go_enter Try.func100, Try.ntmps100
      go_wp2_with fail
      go_ret
      exact ⟨by rw [← HG.out, HE.out]; rfl, (Below.refl _ _).alloc (Nat.le_refl _) _⟩
  · have HL : Hid (¬ (200 < l.length ∨ 12 < dep.length)) := by show ¬ _; rw [HN.out, HN2.out]; exact hl
    have hl1 : ¬ 200 < n := by omega
    have hl2 : ¬ 12 < n2 := by omega
    clear hl
    have HA : Hid (Arr S (w.alloc (.cells #[.slice a2 n2 c2] 91)) a l) := h.keep (fun b hb => Below.heap_alloc _ _ _ (hS b hb))
    have HA2 : Hid (Arr S2 (w.alloc (.cells #[.slice a2 n2 c2] 91)) a2 dep) := h2.keep (fun b hb => Below.heap_alloc _ _ _ (hS2 b hb))
    have HW : Hid (Below w.heap.size w (w.alloc (.cells #[.slice a2 n2 c2] 91))) := (Below.refl _ _).alloc (Nat.le_refl _) _
    have HC : Hid ((w.alloc (.cells #[.slice a2 n2 c2] 91)).cell? ⟨w.heap.size, 0, none⟩ = some (.slice a2 n2 c2)) := (blk_new w [.slice a2 n2 c2] _).cell0
    have hS' : ∀ b, S b → b < (w.alloc (.cells #[.slice a2 n2 c2] 91)).heap.size := fun b hb => Nat.lt_of_lt_of_le (hS b hb) (by simp)
    have HS' := Lib.hid hS'
    clear h h2 hS'
    go_enter Try.func100, Try.ntmps100
    go_wp2_with fail
    refine (hangs_any HN2.out HA2.out).mono ?_
    rintro e w' ⟨rfl, rfl⟩
    by_cases hg : Good dep
    · have hgb := goodB_true hg
      have HGD := Lib.hid hg
      rw [hgb]
      clear hg hgb
      go_wp2_with fail
      have hC := containsFunc_any (c := c) (p := fun x => !(decide (0 ≤ x) && decide (x < (n2 : Int)))) (F := 127) (caps := #[.pointer (some ⟨w.heap.size, 0, none⟩)]) mild_quiet HA.out HS'.out (fun y w => Try.call127 _ _) (fun y wx _ _ hq => checkFn_any ((hq.cell _).trans HC.out))
      rw [HN.out] at hC
      refine hC.mono ?_
      rintro e w3 ⟨rfl, hq⟩
      have HB3 := Lib.hid (HW.out.trans ((hq.below _).mono HW.out.size))
      clear hq hC
      have hany : (l.any fun x => !(decide (0 ≤ x) && decide (x < (n2 : Int)))) = !(l.all (inDep dep)) := by
        rw [List.not_all_eq_any_not]
        congr 1
        funext x
        unfold inDep
        rw [HN2.out]
      rw [hany]
      cases hall : l.all (inDep dep) with
      | true =>
        have HE := Lib.hid (depErr_ok HL.out HGD.out hall)
        go_wp2_with fail
        go_ret
        exact ⟨by rw [← HG.out, HE.out]; rfl, HB3.out⟩
      | false =>
        have HE := Lib.hid (depErr_arg HL.out HGD.out hall)
        go_wp2_with fail
        go_ret
        exact ⟨by rw [← HG.out, HE.out]; rfl, HB3.out⟩
    · have hgb := goodB_false hg
      have HE := Lib.hid (depErr_form HL.out hg)
      rw [hgb]
      clear hg hgb
      go_wp2_with fail
      go_ret
      exact ⟨by rw [← HG.out, HE.out]; rfl, HW.out⟩

def sqRel (w : World) (dep : List (List Bool)) (n : Nat) (i : Value) (w' : World) : Prop := ∃ k : Nat, k ≤ n ∧ i = .int .i64 k ∧ SqTo dep k ∧ w = w'
def refRel (w : World) (dep : List (List Bool)) (n : Nat) (i : Value) (w' : World) : Prop := ∃ k : Nat, k ≤ n ∧ i = .int .i64 k ∧ SymTo dep k ∧ DiagTo dep k ∧ Quiet w w'
def refInRel (w : World) (dep : List (List Bool)) (n k : Nat) (r : List Bool) (i : Value) (w' : World) : Prop := ∃ q : Nat, q ≤ n ∧ i = .int .i64 q ∧ SymIn dep k q ∧ (0 < q → r[k]? = some true) ∧ Quiet w w'
def argRel (w : World) (l : List Int) (dep : List (List Bool)) (n : Nat) (i : Value) (w' : World) : Prop := ∃ k : Nat, k ≤ n ∧ i = .int .i64 k ∧ (l.take k).all (inDep dep) = true ∧ Quiet w w'
theorem all_take {α : Type} {p : α → Bool} {l : List α} {k : Nat} {x : α} (hx : l[k]? = some x) (h : (l.take k).all p = true) (hp : p x = true) : (l.take (k + 1)).all p = true := by
  rw [List.take_add_one, hx, List.all_append, h]; simp [hp]
theorem all_false {α : Type} {p : α → Bool} {l : List α} {k : Nat} {x : α} (hx : l[k]? = some x) (hp : p x = false) : l.all p = false := by
  rw [List.all_eq_false]; exact ⟨x, List.mem_of_getElem? hx, by rw [hp]; simp⟩

set_option maxRecDepth 100000 in
set_option maxHeartbeats 2000000 in
theorem depErr_any {S S2 : Nat → Prop} {w : World} {a a2 : Option Addr} {c c2 n n2 : Nat} {l : List Int} {dep : List (List Bool)} (hn : l.length = n) (hn2 : dep.length = n2) (h : Arr S w a l) (h2 : Arr S2 w a2 dep) :
    Calls Try.prog 57 #[.slice a n c, .slice a2 n2 c2] w fun e w' => e = .returned (.int .i64 (depErr l dep)) ∧ Quiet w w' := by
  obtain ⟨G, hG⟩ : ∃ G, depErr l dep = G := ⟨_, rfl⟩
  rw [hG]
  have HG := Lib.hid hG
  have HN := Lib.hid hn; have HN2 := Lib.hid hn2
  clear hG hn hn2
  by_cases hl : 200 < n ∨ 12 < n2
  · have HE := Lib.hid (depErr_large (l := l) (dep := dep) (by rw [HN.out, HN2.out]; exact hl))
    by_cases hl1 : 200 < n
    · go_enter Try.func57, Try.ntmps57
      go_wp2_with fail
      go_ret
      exact ⟨by rw [← HG.out, HE.out]; rfl, Quiet.refl _⟩
    · have hl2 : 12 < n2 := by omega
      clear hl
      go_enter Try.func57, Try.ntmps57
      go_wp2_with fail
      go_ret
      exact ⟨by rw [← HG.out, HE.out]; rfl, Quiet.refl _⟩
  · have HL : Hid (¬ (200 < l.length ∨ 12 < dep.length)) := by show ¬ _; rw [HN.out, HN2.out]; exact hl
    have hl1 : ¬ 200 < n := by omega
    have hl2 : ¬ 12 < n2 := by omega
    clear hl
    by_cases h0 : n2 = 0
    · subst h0
      have HE := Lib.hid (depErr_form HL.out (fun hg => hg.1 (List.eq_nil_of_length_eq_zero HN2.out)))
      go_enter Try.func57, Try.ntmps57
      go_wp2_with fail
      go_ret
      exact ⟨by rw [← HG.out, HE.out]; rfl, Quiet.refl _⟩
    · have h0b : ((n2 : Int) == 0) = false := by simp; omega
      go_enter Try.func57, Try.ntmps57
      go_wp2_with fail
      go_loopw [5] (sqRel w dep n2) (fun i _ => n2 - (intOf i).toNat)
      case atStart => exact ⟨0, Nat.zero_le _, rfl, fun i r hi => by omega, rfl⟩
      case round =>
        obtain ⟨k, hk, rfl, hsq, rfl⟩ := hrel
        have HSQ := Lib.hid hsq
        clear hsq
        by_cases hlt : k < n2
        · obtain ⟨r, hr⟩ := get_lt HN2.out hlt
          obtain ⟨b, off, a1, c1, rfl, -, q1, -, -, h1⟩ := arr_list h2 hr
          obtain ⟨m, hm⟩ : ∃ m, r.length = m := ⟨_, rfl⟩
          rw [hm] at q1
          have HR := Lib.hid hr; have HM := Lib.hid hm
          clear hr hm h1
          by_cases hmn : m = n2
          · subst hmn
            have hne : ((m : Int) != (m : Int)) = false := by simp
            go_wp2_with fail
            go_roundw
            case rel => exact ⟨k + 1, by omega, by go_num, HSQ.out.succ HR.out (HM.out.trans HN2.out.symm), rfl⟩
            case measure => simp [intOf]; omega
          · have hne : ((m : Int) != (n2 : Int)) = true := by simp; omega
            have HE := Lib.hid (depErr_form HL.out (not_good_row HR.out (.inl (by rw [HM.out, HN2.out]; exact hmn))))
            go_wp2_with fail
            go_ret
            exact ⟨by rw [← HG.out, HE.out]; rfl, Quiet.refl _⟩
        · obtain rfl : k = n2 := by omega
          clear hlt hk
          go_wp2_with fail
          go_loopw [6] (refRel w dep k) (fun i _ => k - (intOf i).toNat)
          case atStart => exact ⟨0, Nat.zero_le _, rfl, fun i hi => by omega, fun i r hi => by omega, Quiet.refl _⟩
          case round =>
            obtain ⟨i, hi, rfl, hst, hdg, hq⟩ := hrel
            have HST := Lib.hid hst; have HDG := Lib.hid hdg; have HQ := Lib.hid hq
            have h2' := h2.keep (w' := wr) (fun b _ => hq.heap b)
            clear hst hdg hq
            by_cases hlt : i < k
            · obtain ⟨r, hr⟩ := get_lt HN2.out hlt
              have HRL : Hid (r.length = k) := (HSQ.out i r hlt hr).trans HN2.out
              have HR := Lib.hid hr
              clear hr h2'
              obtain ⟨wo, rfl⟩ : ∃ wo : World, wo = wr := ⟨_, rfl⟩
              go_wp2_with fail
              go_loopw [7] (refInRel w dep k i r) (fun i _ => k - (intOf i).toNat)
              case atStart => exact ⟨0, Nat.zero_le _, rfl, fun j r s hj => by omega, fun h => by omega, HQ.out⟩
              case round =>
                obtain ⟨j, hj, rfl, hsi, hd0, hq⟩ := hrel
                have HSI := Lib.hid hsi; have HD0 := Lib.hid hd0; have HQ2 := Lib.hid hq
                have h2' := h2.keep (w' := wr) (fun b _ => hq.heap b)
                clear hsi hd0 hq
                by_cases hjl : j < k
                · obtain ⟨s, hs⟩ := get_lt HN2.out hjl
                  have hsl : s.length = k := (HSQ.out j s hjl hs).trans HN2.out
                  obtain ⟨x, hx⟩ := get_lt HRL.out hjl
                  obtain ⟨z, hz⟩ := get_lt HRL.out hlt
                  obtain ⟨y, hy⟩ := get_lt hsl hlt
                  obtain ⟨b, off, a1, c1, rfl, -, q1, -, -, h1⟩ := arr_list h2' HR.out
                  rw [HRL.out] at q1
                  obtain ⟨b3, o3, rfl, -, q3⟩ := arr_bool h1 hx
                  obtain ⟨b6, o6, he6, -, q6⟩ := arr_bool h1 hz
                  cases he6
                  obtain ⟨b4, o4, a4, c4, he4, -, q4, -, -, h4⟩ := arr_list h2' hs
                  cases he4
                  rw [hsl] at q4
                  obtain ⟨b5, o5, rfl, -, q5⟩ := arr_bool h4 hy
                  have HS := Lib.hid hs; have HX := Lib.hid hx; have HY := Lib.hid hy; have HZ := Lib.hid hz
                  clear hs hx hy hz hsl h4 h1 h2' h2
                  by_cases hxy : x = y
                  · subst hxy
                    have hne : (x != x) = false := by simp
                    cases z with
                    | true =>
                      go_wp2_with fail
                      go_quiet (fail)
                      go_wp2_with fail
                      go_roundw
                      case rel => exact ⟨j + 1, by omega, by go_num, HSI.out.succ HR.out HS.out (HX.out.trans HY.out.symm), fun _ => HZ.out, HQ2.out.more _⟩
                      case measure => simp [intOf]; omega
                    | false =>
                      have HE := Lib.hid (depErr_form HL.out (not_good_row HR.out (.inr HZ.out)))
                      go_wp2_with fail
                      go_quiet (fail)
                      go_wp2_with fail
                      go_ret
                      exact ⟨by rw [← HG.out, HE.out]; rfl, HQ2.out.more _⟩
                  · have hne : (x != y) = true := by simpa using hxy
                    have HE := Lib.hid (depErr_form HL.out (not_good_sym HR.out HS.out (fun he => by rw [HX.out, HY.out] at he; exact hxy (Option.some.inj he))))
                    cases x <;> cases y <;> first | exact absurd rfl hxy | skip
                    all_goals
                      go_wp2_with fail
                      go_quiet (fail)
                      go_wp2_with fail
                      go_ret
                      exact ⟨by rw [← HG.out, HE.out]; rfl, HQ2.out.more _⟩
                · obtain rfl : j = k := by omega
                  clear h2'
                  go_wp2_with fail
                  go_roundw
                  case rel => exact ⟨i + 1, by omega, by go_num, HST.out.succ (by rw [HN2.out]; exact HSI.out), HDG.out.succ HR.out (HD0.out (by omega)), HQ2.out⟩
                  case measure => simp [intOf]; omega
            · obtain rfl : i = k := by omega
              have HGD : Hid (Good dep) := Good.of (fun he => by have := HN2.out; rw [he] at this; exact h0 this.symm) (by rw [HN2.out]; exact HSQ.out) (by rw [HN2.out]; exact HDG.out) (by rw [HN2.out]; exact HST.out)
              clear h2' hlt
              obtain ⟨wo, rfl⟩ : ∃ wo : World, wo = wr := ⟨_, rfl⟩
              go_wp2_with fail
              go_loopw [8] (argRel w l dep n) (fun i _ => n - (intOf i).toNat)
              case atStart => exact ⟨0, Nat.zero_le _, rfl, rfl, HQ.out⟩
              case round =>
                obtain ⟨j, hj, rfl, hall, hq⟩ := hrel
                have HAL := Lib.hid hall; have HQ2 := Lib.hid hq
                have h' := h.keep (w' := wr) (fun b _ => hq.heap b)
                clear hall hq
                by_cases hjl : j < n
                · obtain ⟨x, hx⟩ := get_lt HN.out hjl
                  obtain ⟨b3, o3, rfl, -, q3, hxi⟩ := arr_int h' hx
                  have HX := Lib.hid hx
                  clear hx h' h
                  have hw : IntKind.i64.wrap ((i : Int) - 1) = (i : Int) - 1 := by rw [IntKind.wrap_i64]; omega
                  go_wp2_with fail
                  refine (between_any _ x 0 ((i : Int) - 1)).mono ?_
                  rintro e w3 ⟨rfl, rfl⟩
                  have hin : (decide (0 ≤ x) && decide (x ≤ (i : Int) - 1)) = inDep dep x := by
                    unfold inDep
                    rw [HN2.out]
                    congr 1
                    rw [decide_eq_decide]
                    omega
                  rw [hin]
                  cases hp : inDep dep x with
                  | true =>
                    have HP := Lib.hid hp
                    clear hp hin
                    go_wp2_with fail
                    go_roundw
                    case rel => exact ⟨j + 1, by omega, by go_num, all_take HX.out HAL.out HP.out, HQ2.out⟩
                    case measure => simp [intOf]; omega
                  | false =>
                    have HE := Lib.hid (depErr_arg HL.out HGD.out (all_false HX.out hp))
                    clear hp hin
                    go_wp2_with fail
                    go_ret
                    exact ⟨by rw [← HG.out, HE.out]; rfl, HQ2.out⟩
                · obtain rfl : j = n := by omega
                  have HE := Lib.hid (depErr_ok HL.out HGD.out (by have := HAL.out; rwa [← HN.out, List.take_length] at this))
                  clear h'
                  go_wp2_with fail
                  go_ret
                  exact ⟨by rw [← HG.out, HE.out]; rfl, HQ2.out⟩
end Go.Proofs.Ytfdpannanpipdaa.norm
