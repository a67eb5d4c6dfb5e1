/- The document's lines that one hangs on, walked. -/
import Derived.Test.YtimlhjjdaggiiaaLineH
import Derived.Test.YtimlhjjdaggiiaaLineE
set_option linter.unusedVariables false
set_option linter.unusedSimpArgs false
namespace Go.Proofs.Ytimlhjjdaggiiaa.line
open Go.Bk Go.RowKit

def ralRel (w : World) (l : List Api.DLet) (n : Nat) (out i : Value) (w' : World) : Prop :=
  ∃ (q : Nat) (bs : List Bool), q ≤ n + 1 ∧ i = .int .i64 ((q : Int) - 1) ∧ slice.BackInv (depsOf (l.take (n + 1))) n q bs ∧ Blk w' w.heap.size 4 (boolsV bs) ∧ Own (fun _ => False) w' (w.heap.size + 1) 112 out (pickFrom l bs q (n + 1)) ∧ Below w.heap.size w w'
theorem box_below {w w' : World} {o : Obj} {n c : Nat} (hg : (w.alloc o).grownBy w' (Value.slice (some ⟨w.heap.size, 0, none⟩) n c).ownBlock) : Below w.heap.size w w' :=
  ((Below.refl _ _).alloc (Nat.le_refl _) _).grown hg (by simp) (fun r hr => by have : w.heap.size = r := Option.some.inj hr; omega)
theorem own_set {α : Type} [Rep α] {w : World} {B g j : Nat} {e : TypeId} {v u : Value} {xs : List α} (h : Own (fun _ => False) w B e v xs) (hg : g < B) : Own (fun _ => False) (w.setCell ⟨g, j, none⟩ u) B e v xs := by
  refine h.keep (row := some g) ⟨rfl, rfl, rfl, by simp [World.setCell], fun k _ hne => ?_⟩ ?_ (fun _ h => h.elim)
  · simp only [World.setCell]
    rw [Array.getElem?_modify, if_neg (fun e => hne (by rw [e]))]
  · cases hv : v.ownBlock with
    | none => exact .inl rfl
    | some k => right; intro e; injection e with e; subst e; have := h.lt k hv; omega

set_option maxRecDepth 100000 in
set_option maxHeartbeats 2000000 in
theorem ralone_any {S : Nat → Prop} {w : World} {a : Option Addr} {c n : Nat} {l : List Api.DLet} (h : Arr S w a l) (hcap : l.length ≤ c) (hS : ∀ b, S b → b < w.heap.size) (hn : n < l.length) (hlen : l.length ≤ 200) (hok : l.any bad = false) :
    Calls Try.prog 56 #[.slice a l.length c, .int .i64 n] w (RetL w (aloneOf l n)) := by
  have hw : IntKind.i64.wrap ((n : Int) + 1) = ((n + 1 : Nat) : Int) := by rw [IntWalk.i64_in _ (by omega)]; omega
  have HS0 := Lib.hid (round_start hn)
  have HBAD : Hid (∀ (k : Nat) (x : Api.DLet), l[k]? = some x → bad x = false) := fun k x hx => by
    cases hb : bad x with
    | false => rfl
    | true => rw [any_of_at hx hb] at hok; cases hok
  clear hok
  go_enter Try.func56, Try.ntmps56
  go_wp2_with (with_reducible refine wp_make (n := n + 1) rfl rfl Try.underlying173 Try.info4 rfl rfl rfl (by omega) (by unfold maxLen; omega) fun w1 hblk hbel hsz => ?_
               have HK : Hid (Blk w1 w.heap.size 4 (boolsV (List.replicate (n + 1) false))) := by show Blk _ _ _ _; simpa [boolsV] using hblk
               have HB := Lib.hid hbel
               have c2 : w1.cell? ⟨w.heap.size, n, none⟩ = some (.bool false) := HK.out.cell (boolsV_get (by rw [List.getElem?_replicate, if_pos (by omega)]))
               have c3 : w1.frozen? ⟨w.heap.size, n, none⟩ = false := HK.out.frozen n
               clear hblk hbel)
  have HK1 : Hid (Blk (w1.setCell ⟨w.heap.size, n, none⟩ (.bool true)) w.heap.size 4 (boolsV ((List.replicate (n + 1) false).set n true))) := by
    have := HK.out.set n (.bool true)
    rw [boolsV_set] at this
    exact this
  have HB1 := Lib.hid (HB.out.setCell (p := ⟨w.heap.size, n, none⟩) (Nat.le_refl _) (.bool true))
  clear c2 c3 HK HB
  go_loopw [6, 7] (ralRel w l n) (fun _ i _ => (intOf i + 1).toNat)
  case atStart => exact ⟨n + 1, _, Nat.le_refl _, by go_num, HS0.out.1, HK1.out, by rw [HS0.out.2]; exact Own.nil _ _ _ _, HB1.out⟩
  case round =>
    obtain ⟨q, bs, hq, rfl, hinv, hblk, hown, hb⟩ := hrel
    have HK := Lib.hid hblk; have HB := Lib.hid hb; have HI := Lib.hid hinv
    obtain ⟨va, vc, rfl, hvc, hvn, hva⟩ := hown.arr
    have HO := Lib.hid hown; have HVA := Lib.hid hva; have HVN := Lib.hid hvn
    have hbs := hb.size
    have hgs := hblk.lt
    have hplen := pickFrom_len l bs q (n + 1)
    have HA : Hid (∀ wx, Below w.heap.size w wx → Arr S wx a l) := fun wx hx => h.keep (fun b hb' => hx.block b (hS b hb'))
    clear hblk hb HK1 HB1 hinv HS0 hown hva hvn
    by_cases hq0 : q = 0
    · subst hq0
      have HE := Lib.hid (round_end hn HI.out)
      have hd : decide (0 ≤ ((0 : Nat) : Int) - 1) = false := by decide
      clear h
      go_wp2_with fail
      go_ret
      rw [HE.out] at hvc
      rw [HE.out]
      refine .mk HB.out ?_ hvc HVN.out
      rw [← HE.out]
      exact HVA.out.mono (fun b hb => hb.elim False.elim (fun hb => ⟨by omega, hb.2⟩))
    · obtain ⟨k, rfl⟩ : ∃ k, q = k + 1 := ⟨q - 1, by omega⟩
      rw [show (((k + 1 : Nat) : Int) - 1) = (k : Int) by omega]
      obtain ⟨x, hx⟩ : ∃ y, l[k]? = some y := ⟨_, List.getElem?_eq_getElem (by omega)⟩
      obtain ⟨v, hv⟩ : ∃ v, bs[k]? = some v := ⟨_, List.getElem?_eq_getElem (by rw [HI.out.len, deps_len, List.length_take]; omega)⟩
      have c2 : wr.cell? ⟨w.heap.size, k, none⟩ = some (.bool v) := HK.out.cell (boolsV_get hv)
      have hwk : IntKind.i64.wrap ((k : Int) - 1) = (k : Int) - 1 := IntWalk.i64_in _ (by omega)
      have HX := Lib.hid hx; have HV := Lib.hid hv
      clear hx hv
      cases v with
      | false =>
        have HR := Lib.hid (round_false (by omega) HI.out HV.out)
        clear h
        go_wp2_with fail
        go_roundw
        case rel => exact ⟨k, bs, by omega, by go_num, HR.out.1, HK.out, by rw [HR.out.2]; exact HO.out, HB.out⟩
        case measure => simp [intOf] <;> omega
      | true =>
        obtain ⟨b, off, rfl, hSb, q1, q2, q3, q4, g1, g2, g3, g4⟩ := api_DLet_elem (HA.out _ HB.out) HX.out
        have hbw := hS b hSb
        have hne : ¬ w.heap.size = b := by omega
        clear h
        have hbr : b < wr.heap.size := Nat.lt_of_lt_of_le hbw hbs
        have hbase : w.heap.size + 1 ≤ wr.heap.size := hgs
        have hlt : ∀ b, False ∨ w.heap.size + 1 ≤ b ∧ b < wr.heap.size → b < wr.heap.size := fun b hb => hb.elim False.elim (·.2)
        have HBX : Hid (Own (fun _ => False) (wr.alloc (.cells #[.int .i64 x.To, .int .i64 x.Op, .int .i64 x.A, .int .i64 x.B] 112)) (w.heap.size + 1) 112 (.slice (some ⟨wr.heap.size, 0, none⟩) 1 1) [x]) := own_box hbase (blk_new wr [.int .i64 x.To, .int .i64 x.Op, .int .i64 x.A, .int .i64 x.B] 112) (api_DLet_cells_mk g1 g2 g3 g4)
        have HVB : Hid (Arr (fun b => False ∨ w.heap.size + 1 ≤ b ∧ b < wr.heap.size) (wr.alloc (.cells #[.int .i64 x.To, .int .i64 x.Op, .int .i64 x.A, .int .i64 x.B] 112)) va (pickFrom l bs (k + 1) (n + 1))) := HVA.out.keep (fun b hb => Below.heap_alloc _ _ _ (hlt _ hb))
        clear hlt
        by_cases h3 : x.Op = 3
        · have hd : (x.Op == 3) = true := by simpa using h3
          have HR := Lib.hid (round_true hn (by omega) HX.out HI.out HV.out (bs' := bs) (by rw [readBy_three h3, readBy_three h3]; rfl))
          clear h3
          go_wp2_with ((at_builtin; with_reducible refine Try.wp_apps104 rfl rfl rfl rfl (rfl) (HBX.out) (HVB.out) Try.flat104 (HVN.out) (fun _ h => h.elim) (by (simp; omega)) (by first | omega | (simp; omega) | simp) fun v' w' hown' hg' => ?_); have hbw1 : Below wr.heap.size wr w' := box_below (n := 1) (c := 1) (by with_unfolding_all exact hg'); have p2 := (hbw1.cell (p := ⟨b, off + k * 4 + 1, none⟩) hbr).trans q2; have p3 := (hbw1.cell (p := ⟨b, off + k * 4 + 2, none⟩) hbr).trans q3; have p4 := (hbw1.cell (p := ⟨b, off + k * 4 + 3, none⟩) hbr).trans q4; have HG := Lib.hid hbw1; have HN' := Lib.hid hown'; have HBW := Lib.hid (HB.out.trans (hbw1.mono hbs)); clear hown' hg' hbw1)
          go_roundw
          case rel => exact ⟨k, bs, by omega, by go_num, HR.out.1, HK.out.below HG.out hgs, by rw [HR.out.2]; exact HN'.out, HBW.out⟩
          case measure => simp [intOf] <;> omega
        · have hd : (x.Op == 3) = false := by simpa using h3
          have ho : x.Op < 3 := by
            have := HBAD.out k x HX.out
            simp [bad] at this
            omega
          have hla : (lastInt l x.A k = -1 ∧ ∀ bs, markAll bs (readBy l k x x.A) = bs) ∨ ∃ j, j < k ∧ lastInt l x.A k = (j : Int) ∧ ∀ bs, markAll bs (readBy l k x x.A) = bs.set j true := by
            cases hj : lastBelow l x.A k with
            | none => exact .inl ⟨(last_none (vs := []) hj).1, mark_none hj⟩
            | some j => exact .inr ⟨j, lastBelow_lt hj, (last_some (vs := []) hj).1, mark_some hj ho⟩
          have hlb : (lastInt l x.B k = -1 ∧ ∀ bs, markAll bs (readBy l k x x.B) = bs) ∨ ∃ j, j < k ∧ lastInt l x.B k = (j : Int) ∧ ∀ bs, markAll bs (readBy l k x x.B) = bs.set j true := by
            cases hj : lastBelow l x.B k with
            | none => exact .inl ⟨(last_none (vs := []) hj).1, mark_none hj⟩
            | some j => exact .inr ⟨j, lastBelow_lt hj, (last_some (vs := []) hj).1, mark_some hj ho⟩
          have hbl : bs.length = n + 1 := by rw [HI.out.len, deps_len, List.length_take]; omega
          clear h3 ho
          rcases hla with hla | ⟨ja, hja, hla⟩ <;> rcases hlb with hlb | ⟨jb, hjb, hlb⟩
          · have HLA := Lib.hid hla; have HLB := Lib.hid hlb
            have HR := Lib.hid (round_true hn (by omega) HX.out HI.out HV.out (bs' := bs) (by rw [HLA.out.2, HLB.out.2]))
            clear hla hlb
            go_wp2_with (first | (with_reducible refine (last_any (n := x.A) (HA.out _ HBW.out) (by omega) g3).mono ?_; rintro e w' ⟨rfl, rfl⟩; rw [HLA.out.1]) | (with_reducible refine (last_any (n := x.B) (HA.out _ HBW.out) (by omega) g4).mono ?_; rintro e w' ⟨rfl, rfl⟩; rw [HLB.out.1]) | ((at_builtin; with_reducible refine Try.wp_apps104 rfl rfl rfl rfl (rfl) (HBX.out) (HVB.out) Try.flat104 (HVN.out) (fun _ h => h.elim) (by (simp; omega)) (by first | omega | (simp; omega) | simp) fun v' w' hown' hg' => ?_); have hbw1 : Below wr.heap.size wr w' := box_below (n := 1) (c := 1) (by with_unfolding_all exact hg'); have p2 := (hbw1.cell (p := ⟨b, off + k * 4 + 1, none⟩) hbr).trans q2; have p3 := (hbw1.cell (p := ⟨b, off + k * 4 + 2, none⟩) hbr).trans q3; have p4 := (hbw1.cell (p := ⟨b, off + k * 4 + 3, none⟩) hbr).trans q4; have HG := Lib.hid hbw1; have HN' := Lib.hid hown'; have HBW := Lib.hid (HB.out.trans (hbw1.mono hbs)); clear hown' hg' hbw1; have HK' := Lib.hid (HK.out.below HG.out hgs)))
            go_roundw
            case rel => exact ⟨k, _, by omega, by go_num, HR.out.1, HK'.out, by rw [HR.out.2]; exact HN'.out, HBW.out⟩
            case measure => simp [intOf] <;> omega
          · have HLA := Lib.hid hla; have HLB := Lib.hid hlb
            have HR := Lib.hid (round_true hn (by omega) HX.out HI.out HV.out (bs' := (bs.set jb true)) (by rw [HLA.out.2, HLB.out.2]))
            have db : decide (0 ≤ (jb : Int)) = true := by simp
            have hjb1 : jb < n + 1 := by omega
            clear hla hlb
            go_wp2_with (first | (with_reducible refine (last_any (n := x.A) (HA.out _ HBW.out) (by omega) g3).mono ?_; rintro e w' ⟨rfl, rfl⟩; rw [HLA.out.1]) | (with_reducible refine (last_any (n := x.B) (HA.out _ HBW.out) (by omega) g4).mono ?_; rintro e w' ⟨rfl, rfl⟩; rw [HLB.out.1]) | ((at_builtin; with_reducible refine Try.wp_apps104 rfl rfl rfl rfl (rfl) (HBX.out) (HVB.out) Try.flat104 (HVN.out) (fun _ h => h.elim) (by (simp; omega)) (by first | omega | (simp; omega) | simp) fun v' w' hown' hg' => ?_); have hbw1 : Below wr.heap.size wr w' := box_below (n := 1) (c := 1) (by with_unfolding_all exact hg'); have p2 := (hbw1.cell (p := ⟨b, off + k * 4 + 1, none⟩) hbr).trans q2; have p3 := (hbw1.cell (p := ⟨b, off + k * 4 + 2, none⟩) hbr).trans q3; have p4 := (hbw1.cell (p := ⟨b, off + k * 4 + 3, none⟩) hbr).trans q4; have HG := Lib.hid hbw1; have HN' := Lib.hid hown'; have HBW := Lib.hid (HB.out.trans (hbw1.mono hbs)); clear hown' hg' hbw1; have HK' := Lib.hid (HK.out.below HG.out hgs); obtain ⟨yb, hyb⟩ : ∃ y, bs[jb]? = some y := ⟨_, List.getElem?_eq_getElem (by first | omega | (simp; omega))⟩; have cb := HK'.out.cell (boolsV_get hyb); have fb := HK'.out.frozen jb; clear hyb))
            go_roundw
            case rel => exact ⟨k, _, by omega, by go_num, HR.out.1, (by rw [← boolsV_set]; exact Blk.set (HK'.out) jb _), by rw [HR.out.2]; exact own_set (HN'.out) (Nat.lt_succ_self _), (HBW.out).setCell (p := ⟨w.heap.size, jb, none⟩) (Nat.le_refl _) _⟩
            case measure => simp [intOf] <;> omega
          · have HLA := Lib.hid hla; have HLB := Lib.hid hlb
            have HR := Lib.hid (round_true hn (by omega) HX.out HI.out HV.out (bs' := (bs.set ja true)) (by rw [HLA.out.2, HLB.out.2]))
            have da : decide (0 ≤ (ja : Int)) = true := by simp
            have hja1 : ja < n + 1 := by omega
            clear hla hlb
            go_wp2_with (first | (with_reducible refine (last_any (n := x.A) (HA.out _ HBW.out) (by omega) g3).mono ?_; rintro e w' ⟨rfl, rfl⟩; rw [HLA.out.1]) | (with_reducible refine (last_any (n := x.B) (HA.out _ (HBW.out.setCell (p := ⟨w.heap.size, ja, none⟩) (Nat.le_refl _) _)) (by omega) g4).mono ?_; rintro e w' ⟨rfl, rfl⟩; rw [HLB.out.1]) | ((at_builtin; with_reducible refine Try.wp_apps104 rfl rfl rfl rfl (rfl) (HBX.out) (HVB.out) Try.flat104 (HVN.out) (fun _ h => h.elim) (by (simp; omega)) (by first | omega | (simp; omega) | simp) fun v' w' hown' hg' => ?_); have hbw1 : Below wr.heap.size wr w' := box_below (n := 1) (c := 1) (by with_unfolding_all exact hg'); have p2 := (hbw1.cell (p := ⟨b, off + k * 4 + 1, none⟩) hbr).trans q2; have p3 := (hbw1.cell (p := ⟨b, off + k * 4 + 2, none⟩) hbr).trans q3; have p4 := (hbw1.cell (p := ⟨b, off + k * 4 + 3, none⟩) hbr).trans q4; have HG := Lib.hid hbw1; have HN' := Lib.hid hown'; have HBW := Lib.hid (HB.out.trans (hbw1.mono hbs)); clear hown' hg' hbw1; have HK' := Lib.hid (HK.out.below HG.out hgs); obtain ⟨ya, hya⟩ : ∃ y, bs[ja]? = some y := ⟨_, List.getElem?_eq_getElem (by omega)⟩; have ca := HK'.out.cell (boolsV_get hya); have fa := HK'.out.frozen ja; clear hya; have HKA : Hid (Blk (w'.setCell ⟨w.heap.size, ja, none⟩ (.bool true)) w.heap.size 4 (boolsV (bs.set ja true))) := (by rw [← boolsV_set]; exact HK'.out.set ja _)))
            go_roundw
            case rel => exact ⟨k, _, by omega, by go_num, HR.out.1, HKA.out, by rw [HR.out.2]; exact own_set HN'.out (Nat.lt_succ_self _), HBW.out.setCell (p := ⟨w.heap.size, ja, none⟩) (Nat.le_refl _) _⟩
            case measure => simp [intOf] <;> omega
          · have HLA := Lib.hid hla; have HLB := Lib.hid hlb
            have HR := Lib.hid (round_true hn (by omega) HX.out HI.out HV.out (bs' := ((bs.set ja true).set jb true)) (by rw [HLA.out.2, HLB.out.2]))
            have da : decide (0 ≤ (ja : Int)) = true := by simp
            have hja1 : ja < n + 1 := by omega
            have db : decide (0 ≤ (jb : Int)) = true := by simp
            have hjb1 : jb < n + 1 := by omega
            clear hla hlb
            go_wp2_with (first | (with_reducible refine (last_any (n := x.A) (HA.out _ HBW.out) (by omega) g3).mono ?_; rintro e w' ⟨rfl, rfl⟩; rw [HLA.out.1]) | (with_reducible refine (last_any (n := x.B) (HA.out _ (HBW.out.setCell (p := ⟨w.heap.size, ja, none⟩) (Nat.le_refl _) _)) (by omega) g4).mono ?_; rintro e w' ⟨rfl, rfl⟩; rw [HLB.out.1]) | ((at_builtin; with_reducible refine Try.wp_apps104 rfl rfl rfl rfl (rfl) (HBX.out) (HVB.out) Try.flat104 (HVN.out) (fun _ h => h.elim) (by (simp; omega)) (by first | omega | (simp; omega) | simp) fun v' w' hown' hg' => ?_); have hbw1 : Below wr.heap.size wr w' := box_below (n := 1) (c := 1) (by with_unfolding_all exact hg'); have p2 := (hbw1.cell (p := ⟨b, off + k * 4 + 1, none⟩) hbr).trans q2; have p3 := (hbw1.cell (p := ⟨b, off + k * 4 + 2, none⟩) hbr).trans q3; have p4 := (hbw1.cell (p := ⟨b, off + k * 4 + 3, none⟩) hbr).trans q4; have HG := Lib.hid hbw1; have HN' := Lib.hid hown'; have HBW := Lib.hid (HB.out.trans (hbw1.mono hbs)); clear hown' hg' hbw1; have HK' := Lib.hid (HK.out.below HG.out hgs); obtain ⟨ya, hya⟩ : ∃ y, bs[ja]? = some y := ⟨_, List.getElem?_eq_getElem (by omega)⟩; have ca := HK'.out.cell (boolsV_get hya); have fa := HK'.out.frozen ja; clear hya; have HKA : Hid (Blk (w'.setCell ⟨w.heap.size, ja, none⟩ (.bool true)) w.heap.size 4 (boolsV (bs.set ja true))) := (by rw [← boolsV_set]; exact HK'.out.set ja _); obtain ⟨yb, hyb⟩ : ∃ y, (bs.set ja true)[jb]? = some y := ⟨_, List.getElem?_eq_getElem (by first | omega | (simp; omega))⟩; have cb := HKA.out.cell (boolsV_get hyb); have fb := HKA.out.frozen jb; clear hyb))
            go_roundw
            case rel => exact ⟨k, _, by omega, by go_num, HR.out.1, (by rw [← boolsV_set]; exact Blk.set (HKA.out) jb _), by rw [HR.out.2]; exact own_set (own_set HN'.out (Nat.lt_succ_self _)) (Nat.lt_succ_self _), (HBW.out.setCell (p := ⟨w.heap.size, ja, none⟩) (Nat.le_refl _) _).setCell (p := ⟨w.heap.size, jb, none⟩) (Nat.le_refl _) _⟩
            case measure => simp [intOf] <;> omega
end Go.Proofs.Ytimlhjjdaggiiaa.line
