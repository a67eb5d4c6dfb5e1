/- PagesTells: asked, page, Get, Shared: walked. -/
import Derived.Test.YtjlnaiiajlahgaaPagC
import Derived.Laws.Rows
set_option linter.unusedVariables false
set_option linter.unusedSimpArgs false
namespace Go.Proofs.Ytjlnaiiajlahgaa.pag
open Go.Bk Go.RowKit

set_option maxRecDepth 100000 in
set_option maxHeartbeats 1000000 in
theorem asked_any {S : Nat → Prop} {w : World} {aP aU aR : Option Addr} {nP nU nR cP cU cR : Nat} {s : Store} {root at' : Int} (h : StAt S w aP aU aR nP nU nR s) (hS : ∀ b, S b → b < w.heap.size) (hr : I64 root) :
    Calls Try.prog 30 #[stV aP aU aR nP nU nR cP cU cR, .int .i64 root, .int .i64 at'] w (CodePost w (ask s root at')) := by
  have HB0 : Hid (RowKit.Below w.heap.size w ((w.alloc (.cells #[.slice aP nP cP, .slice aU nU cU, .slice aR nR cR] 26)).alloc (.cells #[.int .i64 root] 3))) := ((RowKit.Below.refl _ _).alloc (Nat.le_refl _) _).alloc (by simp) _
  have hsz : (w.alloc (.cells #[.slice aP nP cP, .slice aU nU cU, .slice aR nR cR] 26)).heap.size = w.heap.size + 1 := by simp
  have hbk := blk_new (w.alloc (.cells #[.slice aP nP cP, .slice aU nU cU, .slice aR nR cR] 26)) [.int .i64 root] 3
  rw [hsz] at hbk
  have HC : Hid (Calls Try.prog 36 #[stV aP aU aR nP nU nR cP cU cR, .slice (some ⟨w.heap.size + 1, 0, none⟩) 1 1] ((w.alloc (.cells #[.slice aP nP cP, .slice aU nU cU, .slice aR nR cR] 26)).alloc (.cells #[.int .i64 root] 3)) (CodePost _ (thrs s [root]))) :=
    there_any (S2 := fun b => b = w.heap.size + 1) (h.below hS HB0.out) (fun b hb => Nat.lt_of_lt_of_le (hS b hb) HB0.out.size) rfl (arr_ints (zs := [root]) hbk (by simp [maxLen]) rfl (fun z hz => by simp at hz; subst hz; exact hr)) (fun b hb => by subst hb; exact hbk.lt)
  clear h hS hr hsz hbk
  obtain ⟨c, hc⟩ : ∃ c, c = thrs s [root] := ⟨_, rfl⟩
  have HA : Hid (ask s root at' = if c ≠ 0 then c else if at' < 0 ∨ 64 ≤ at' then 1 else 0) := by show _ = _; rw [hc]; rfl
  rw [← hc] at HC
  clear hc
  by_cases h0 : c = 0
  case neg =>
    have d1 : (c == 0) = false := by simp [h0]
    have HF : Hid (ask s root at' = c) := by show _ = _; rw [HA.out, if_pos h0]
    clear h0
    go_enter Try.func30, Try.ntmps30
    go_wp2_with (go_at_call 36; (with_reducible refine HC.out.mono ?_); rintro e w1 ⟨rfl, hb1⟩; have HB := Lib.hid (HB0.out.trans (hb1.mono HB0.out.size)); clear hb1)
    go_ret
    exact ⟨by rw [HF.out]; rfl, HB.out⟩
  case pos =>
  subst h0
  have hcs : (decide (at' < 0) = true ∧ ask s root at' = 1) ∨ (decide (at' < 0) = false ∧ decide (64 ≤ at') = true ∧ ask s root at' = 1) ∨ (decide (at' < 0) = false ∧ decide (64 ≤ at') = false ∧ ask s root at' = 0) := by
    rw [HA.out, if_neg (by simp)]
    simp only [decide_eq_true_eq, decide_eq_false_iff_not]
    by_cases h1 : at' < 0
    · exact .inl ⟨h1, if_pos (.inl h1)⟩
    · by_cases h2 : 64 ≤ at'
      · exact .inr (.inl ⟨h1, h2, if_pos (.inr h2)⟩)
      · exact .inr (.inr ⟨h1, h2, if_neg (by omega)⟩)
  rcases hcs with ⟨d1, hf⟩ | ⟨d1, d2, hf⟩ | ⟨d1, d2, hf⟩
  all_goals
    have HF := Lib.hid hf
    clear hf
    go_enter Try.func30, Try.ntmps30
    go_wp2_with (go_at_call 36; (with_reducible refine HC.out.mono ?_); rintro e w1 ⟨rfl, hb1⟩; have HB := Lib.hid (HB0.out.trans (hb1.mono HB0.out.size)); clear hb1)
    go_ret
    exact ⟨by rw [HF.out]; rfl, HB.out⟩
theorem quo4 {a : Int} (h1 : 0 ≤ a) (h2 : a < 64) : ∃ k r : Nat, a.tdiv 4 = k ∧ a.tmod 4 = r ∧ k < 16 ∧ r < 4 ∧ (a / 4).toNat = k ∧ (a % 4).toNat = r := by
  refine ⟨(a / 4).toNat, (a % 4).toNat, ?_, ?_, ?_, ?_, rfl, rfl⟩
  · rw [Int.tdiv_eq_ediv_of_nonneg h1]; omega
  · rw [Int.tmod_eq_emod_of_nonneg h1]; omega
  · omega
  · omega
set_option maxRecDepth 100000 in
set_option maxHeartbeats 1000000 in
theorem page_any {S : Nat → Prop} {w : World} {aP aU aR : Option Addr} {nP nU nR cP cU cR : Nat} {s : Store} {q : Nat} {r : List Int} {at' : Int} (h : StAt S w aP aU aR nP nU nR s) (hS : ∀ b, S b → b < w.heap.size) (hT : There s q r) (h1 : 0 ≤ at') (h2 : at' < 64) :
    Calls Try.prog 31 #[stV aP aU aR nP nU nR cP cU cR, .int .i64 q, .int .i64 at'] w fun e w' => e = .returned (.agg #[.int .i64 (pageOf s q at').1, .int .i64 (pageOf s q at').2.1, .int .i64 (pageOf s q at').2.2.1, .int .i64 (pageOf s q at').2.2.2]) ∧ RowKit.Below w.heap.size w w' := by
  obtain ⟨k, j, e1, e2, hk, hj, e3, e4⟩ := quo4 h1 h2
  obtain ⟨b1, o1, a', c', rfl, hS1, q0, hlc, -, har⟩ := row_elem h.roots hT.at'
  obtain ⟨p, hp⟩ : ∃ p, r[k]? = some p := ⟨_, List.getElem?_eq_getElem (by rw [hT.len]; exact hk)⟩
  obtain ⟨b2, o2, rfl, hS2, p0, -⟩ := arr_int har hp
  rw [hT.len] at q0 hlc
  have hrow : pageOf s q at' = pageP s p := by
    unfold pageOf rowAt
    rw [show ((q : Int)).toNat = q by omega, hT.at', e3]
    simp [hp]
  have HPG : Hid (pageOf s q at' = pageP s p) := hrow
  have hqr : q < nR := by rw [← h.lenR]; exact (List.getElem?_eq_some_iff.1 hT.at').1
  have hb1 := hS _ hS1; have hb2 := hS _ hS2
  have hok := hT.ok p (List.mem_of_getElem? hp)
  unfold okP at hok
  rw [h.lenP] at hok
  have hsz : (w.alloc (.cells #[.slice aP nP cP, .slice aU nU cU, .slice (some ⟨b1, o1, none⟩) nR cR] 26)).heap.size = w.heap.size + 1 := by simp
  have HZB : Hid (∀ y0 y1 y2 y3 : Int, Blk ((w.alloc (.cells #[.slice aP nP cP, .slice aU nU cU, .slice (some ⟨b1, o1, none⟩) nR cR] 26)).alloc (.cells #[.int .i64 y0, .int .i64 y1, .int .i64 y2, .int .i64 y3] 64)) (w.heap.size + 1) 64 [.int .i64 y0, .int .i64 y1, .int .i64 y2, .int .i64 y3]) := by
    intro y0 y1 y2 y3
    have := blk_new (w.alloc (.cells #[.slice aP nP cP, .slice aU nU cU, .slice (some ⟨b1, o1, none⟩) nR cR] 26)) [.int .i64 y0, .int .i64 y1, .int .i64 y2, .int .i64 y3] 64
    rwa [hsz] at this
  have HBB : Hid (∀ y0 y1 y2 y3 : Int, RowKit.Below w.heap.size w ((w.alloc (.cells #[.slice aP nP cP, .slice aU nU cU, .slice (some ⟨b1, o1, none⟩) nR cR] 26)).alloc (.cells #[.int .i64 y0, .int .i64 y1, .int .i64 y2, .int .i64 y3] 64))) := fun _ _ _ _ => ((RowKit.Below.refl _ _).alloc (Nat.le_refl _) _).alloc (by simp) _
  clear hsz
  by_cases hp0 : p < 0
  · have d1 : decide (0 ≤ p) = false := decide_eq_false (by omega)
    have HF : Hid (pageOf s q at' = zero4) := by show _ = _; rw [hrow]; unfold pageP; rw [if_neg (by omega)]
    clear h hS hT hrow hp hok hp0 har e3 e4
    go_enter Try.func31, Try.ntmps31
    go_wp2_with fail
    (try simp only [Exit.inBlock, Exit.then])
    refine bodyPost_ret (results_cell_row rfl _ _ _ _ _ _ _ rfl (HZB.out _ _ _ _) Try.underlying64 rfl rfl) rfl ?_
    rw [HF.out]
    exact ⟨rfl, HBB.out _ _ _ _⟩
  · have d1 : decide (0 ≤ p) = true := decide_eq_true (by omega)
    obtain ⟨z, rfl⟩ : ∃ z : Nat, p = (z : Int) := ⟨p.toNat, by omega⟩
    obtain ⟨x, hx⟩ : ∃ x, s.pages[z]? = some x := ⟨_, List.getElem?_eq_getElem (by rw [h.lenP]; omega)⟩
    obtain ⟨x0, x1, x2, x3⟩ := x
    obtain ⟨b3, o3, rfl, hS3, y0, y1, y2, y3, -⟩ := int4_elem h.pages hx
    have hb3 := hS _ hS3
    dsimp only at y0 y1 y2 y3
    have HF : Hid (pageOf s q at' = (x0, x1, x2, x3)) := by show _ = _; rw [hrow]; unfold pageP; rw [if_pos (by omega), show ((z : Int)).toNat = z by omega, hx]; rfl
    have hzp : z < nP := by omega
    clear h hS hT hrow hp hok hp0 har e3 e4 HPG
    go_enter Try.func31, Try.ntmps31
    go_wp2_with fail
    (try simp only [Exit.inBlock, Exit.then])
    refine bodyPost_ret (results_cell_row rfl _ _ _ _ _ _ _ rfl (HZB.out _ _ _ _) Try.underlying64 rfl rfl) rfl ?_
    rw [HF.out]
    exact ⟨rfl, HBB.out _ _ _ _⟩
/-- What Get tells. -/
def getRes (s : Store) (root at' : Int) : Int × Int := if ask s root at' ≠ 0 then (0, ask s root at') else (getOf s root at', 0)
theorem ask_zero {s : Store} {root at' : Int} (h : ask s root at' = 0) : ∃ (q : Nat) (r : List Int), root = q ∧ There s q r ∧ 0 ≤ at' ∧ at' < 64 := by
  unfold ask at h
  split at h
  · omega
  · rename_i h1
    split at h
    · omega
    · obtain ⟨h3, h4⟩ := thrs_zero (by omega : thrs s [root] = 0)
      obtain ⟨q, r, h5, h6⟩ := there_of h3 (h4 root (by simp))
      exact ⟨q, r, h5, h6, by omega, by omega⟩
set_option maxRecDepth 100000 in
set_option maxHeartbeats 1000000 in
theorem get_any {S : Nat → Prop} {w : World} {aP aU aR : Option Addr} {nP nU nR cP cU cR : Nat} {s : Store} {root at' : Int} (h : StAt S w aP aU aR nP nU nR s) (hS : ∀ b, S b → b < w.heap.size) (hr : I64 root) :
    Calls Try.prog 6 #[stV aP aU aR nP nU nR cP cU cR, .int .i64 root, .int .i64 at'] w fun e w' => e = .returned (.tuple #[.int .i64 (getRes s root at').1, .int .i64 (getRes s root at').2]) ∧ RowKit.Below w.heap.size w w' := by
  have HB0 : Hid (RowKit.Below w.heap.size w (w.alloc (.cells #[.slice aP nP cP, .slice aU nU cU, .slice aR nR cR] 26))) := (RowKit.Below.refl _ _).alloc (Nat.le_refl _) _
  have HA := Lib.hid (asked_any (at' := at') (cP := cP) (cU := cU) (cR := cR) (h.below hS HB0.out) (fun b hb => Nat.lt_of_lt_of_le (hS b hb) HB0.out.size) hr)
  have HBX : Hid (∀ w', RowKit.Below (w.alloc (.cells #[.slice aP nP cP, .slice aU nU cU, .slice aR nR cR] 26)).heap.size (w.alloc (.cells #[.slice aP nP cP, .slice aU nU cU, .slice aR nR cR] 26)) w' → w'.cell? ⟨w.heap.size, 0, none⟩ = some (.slice aP nP cP) ∧ w'.cell? ⟨w.heap.size, 1, none⟩ = some (.slice aU nU cU) ∧ w'.cell? ⟨w.heap.size, 2, none⟩ = some (.slice aR nR cR)) := fun w' hb => box_cells hb
  have HPG : Hid (∀ w' q r, RowKit.Below w.heap.size w w' → There s q r → 0 ≤ at' → at' < 64 → Calls Try.prog 31 #[stV aP aU aR nP nU nR cP cU cR, .int .i64 (q : Nat), .int .i64 at'] w' fun e w'' => e = .returned (.agg #[.int .i64 (pageOf s q at').1, .int .i64 (pageOf s q at').2.1, .int .i64 (pageOf s q at').2.2.1, .int .i64 (pageOf s q at').2.2.2]) ∧ RowKit.Below w'.heap.size w' w'') :=
    fun w' q r hb hT h1 h2 => page_any (h.below hS hb) (fun b hb' => Nat.lt_of_lt_of_le (hS b hb') hb.size) hT h1 h2
  clear h hS hr
  obtain ⟨c, hc⟩ : ∃ c, c = ask s root at' := ⟨_, rfl⟩
  have HC := Lib.hid hc
  rw [← hc] at HA
  by_cases h0 : c = 0
  case neg =>
    have HR : Hid (getRes s root at' = (0, c)) := by show _ = _; unfold getRes; rw [← hc, if_pos h0]
    have d1 : (c != 0) = true := by simp [h0]
    clear h0 hc
    go_enter Try.func6, Try.ntmps6
    go_wp2_with (go_at_call 30; (with_reducible refine HA.out.mono ?_); rintro e w1 ⟨rfl, hb1⟩; have HB := Lib.hid (HB0.out.trans (hb1.mono HB0.out.size)); (obtain ⟨x0, x1, x2⟩ := HBX.out w1 hb1); clear hb1)
    go_ret2
    rw [HR.out]
    exact ⟨rfl, HB.out⟩
  case pos =>
  subst h0
  have HR : Hid (getRes s root at' = (getOf s root at', 0)) := by show _ = _; unfold getRes; rw [← hc, if_neg (by simp)]
  obtain ⟨q, r, rfl, hT, h1, h2⟩ := ask_zero hc.symm
  obtain ⟨k, j, e1, e2, hk, hj, e3, e4⟩ := quo4 h1 h2
  obtain ⟨x, hx⟩ : ∃ x, x = pageOf s q at' := ⟨_, rfl⟩
  obtain ⟨x0, x1, x2, x3⟩ := x
  have HG : Hid (getOf s q at' = part4 (x0, x1, x2, x3) j) := by show _ = _; unfold getOf; rw [← hx, e4]
  have HP2 : Hid (∀ w', RowKit.Below w.heap.size w w' → Calls Try.prog 31 #[stV aP aU aR nP nU nR cP cU cR, .int .i64 (q : Nat), .int .i64 at'] w' fun e w'' => e = .returned (.agg #[.int .i64 x0, .int .i64 x1, .int .i64 x2, .int .i64 x3]) ∧ RowKit.Below w'.heap.size w' w'') := fun w' hb => by
    have := HPG.out w' q r hb hT h1 h2
    rw [← hx] at this
    exact this
  have hjj : (at'.tmod 4 = 0 ∧ j = 0) ∨ (at'.tmod 4 = 1 ∧ j = 1) ∨ (at'.tmod 4 = 2 ∧ j = 2) ∨ (at'.tmod 4 = 3 ∧ j = 3) := by omega
  clear HPG hx hc HC e1 e2 e3 e4 hT h1 h2
  have i4 := index4_0; have i5 := index4_1; have i6 := index4_2; have i7 := index4_3
  rcases hjj with ⟨em, rfl⟩ | ⟨em, rfl⟩ | ⟨em, rfl⟩ | ⟨em, rfl⟩
  all_goals
    go_enter Try.func6, Try.ntmps6
    go_wp2_with (first
      | (go_at_call 30; (with_reducible refine HA.out.mono ?_); rintro e w1 ⟨rfl, hb1⟩; have HB := Lib.hid (HB0.out.trans (hb1.mono HB0.out.size)); (obtain ⟨y0, y1, y2⟩ := HBX.out w1 hb1); clear hb1)
      | (go_at_call 31; (with_reducible refine (HP2.out _ HB.out).mono ?_); rintro e w2 ⟨rfl, hb2⟩; have HB2 := Lib.hid (HB.out.trans (hb2.mono HB.out.size)); clear hb2))
    go_ret2
    rw [HR.out, HG.out]
    exact ⟨rfl, HB2.out⟩
end Go.Proofs.Ytjlnaiiajlahgaa.pag
