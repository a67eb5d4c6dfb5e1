/- PagesTells: uses: walked. -/
import Derived.Test.YtjlnaiiajlahgaaPagPlain
import Derived.Test.YtjlnaiiajlahgaaCells
import Derived.Test.YtjlnaiiajlahgaaFuncsG
import Derived.BigQuiet
set_option linter.unusedVariables false
set_option linter.unusedSimpArgs false
namespace Go.Proofs.Ytjlnaiiajlahgaa.pag
open Go.Bk Go.RowKit

theorem intsV_set (xs : List Int) (k : Nat) (x : Int) : (intsV xs).set k (.int .i64 x) = intsV (xs.set k x) := by simp [intsV, List.map_set]
theorem intsV_get {xs : List Int} {k : Nat} {x : Int} (h : xs[k]? = some x) : (intsV xs)[k]? = some (.int .i64 x) := by simp [intsV, h]
theorem arr_ints {w : World} {g : Nat} {e : TypeId} {zs : List Int} (h : Blk w g e (intsV zs)) (hl : zs.length ≤ maxLen) {S : Nat → Prop} (hS : S g) (hi : ∀ z ∈ zs, I64 z) : Arr S w (some ⟨g, 0, none⟩) zs := by
  refine ⟨hl, .inr ⟨g, 0, rfl, hS, fun k x hk => ⟨[.int .i64 x], ⟨rfl, hi x (List.mem_of_getElem? hk)⟩, fun j hj => ?_⟩⟩⟩
  have hj0 : j = 0 := by
    have : j < 1 := hj
    omega
  subst hj0
  show w.cell? ⟨g, 0 + k * 1 + 0, none⟩ = _
  rw [show 0 + k * 1 + 0 = k by omega]
  exact h.cell (intsV_get hk)
/-- A store at its three rows. -/
structure StAt (S : Nat → Prop) (w : World) (aP aU aR : Option Addr) (nP nU nR : Nat) (s : Store) : Prop where
  pages : Arr S w aP s.pages
  uses : Arr S w aU s.uses
  roots : Arr S w aR s.roots
  lenP : s.pages.length = nP
  lenU : s.uses.length = nU
  lenR : s.roots.length = nR
theorem StAt.keep {S : Nat → Prop} {w w' : World} {aP aU aR : Option Addr} {nP nU nR : Nat} {s : Store} (h : StAt S w aP aU aR nP nU nR s) (hb : ∀ b, S b → w'.heap[b]? = w.heap[b]?) : StAt S w' aP aU aR nP nU nR s :=
  ⟨h.pages.keep hb, h.uses.keep hb, h.roots.keep hb, h.lenP, h.lenU, h.lenR⟩
theorem StAt.below {S : Nat → Prop} {N : Nat} {w w' : World} {aP aU aR : Option Addr} {nP nU nR : Nat} {s : Store} (h : StAt S w aP aU aR nP nU nR s) (hS : ∀ b, S b → b < N) (hb : RowKit.Below N w w') : StAt S w' aP aU aR nP nU nR s :=
  h.keep fun b hb' => hb.block b (hS b hb')
abbrev stV (aP aU aR : Option Addr) (nP nU nR cP cU cR : Nat) : Value := .agg #[.slice aP nP cP, .slice aU nU cU, .slice aR nR cR]
/-- A box with a store, behind whatever leaves it alone. -/
theorem box_cells {w w' : World} {x y z : Value} {T : TypeId} (hb : RowKit.Below (w.alloc (.cells #[x, y, z] T)).heap.size (w.alloc (.cells #[x, y, z] T)) w') : w'.cell? ⟨w.heap.size, 0, none⟩ = some x ∧ w'.cell? ⟨w.heap.size, 1, none⟩ = some y ∧ w'.cell? ⟨w.heap.size, 2, none⟩ = some z := by
  have h := (blk_new w [x, y, z] T).keep (hb.block w.heap.size (by simp))
  exact ⟨h.cell (j := 0) rfl, h.cell (j := 1) rfl, h.cell (j := 2) rfl⟩
def UsesPost (w : World) (s : Store) (e : Ending) (w' : World) : Prop :=
  (okRoots s.pages.length s.roots ∧ ∃ a c, e = .returned (.tuple #[.slice a s.pages.length c, .bool true]) ∧ Arr (Fresh w w') w' a (outOf s.pages.length s.roots.flatten) ∧ RowKit.Below w.heap.size w w') ∨
    (¬ okRoots s.pages.length s.roots ∧ ∃ a c n, e = .returned (.tuple #[.slice a n c, .bool false]) ∧ RowKit.Below w.heap.size w w')
def uRel (w : World) (s : Store) (g nR : Nat) (v16 : Value) (w' : World) : Prop :=
  ∃ i : Nat, i ≤ nR ∧ v16 = .int .i64 i ∧ Blk w' g 3 (intsV (outOf s.pages.length (seen s.roots i 0))) ∧ (∀ j r, j < i → s.roots[j]? = some r → okRow s.pages.length r) ∧ RowKit.Below w.heap.size w w'
def vRel (w : World) (s : Store) (g i : Nat) (r : List Int) (v30 : Value) (w' : World) : Prop :=
  ∃ k : Nat, k ≤ r.length ∧ v30 = .int .i64 k ∧ Blk w' g 3 (intsV (outOf s.pages.length (seen s.roots i k))) ∧ (∀ j p, j < k → r[j]? = some p → okP s.pages.length p) ∧ RowKit.Below w.heap.size w w'
theorem seen_len {l : List (List Int)} {P i : Nat} {r : List Int} (hr : l[i]? = some r) (h16 : r.length = 0 ∨ r.length = 16) (hok : ∀ j r, j < i → l[j]? = some r → okRow P r) (hl : l.length ≤ 40) (k : Nat) : (seen l i k).length ≤ 1000 := by
  have h1 : okRoots P (l.take i) := fun x hx => by
    obtain ⟨j, hj⟩ := List.getElem?_of_mem hx
    have hji : j < i := by
      have := (List.getElem?_eq_some_iff.1 hj).1
      rw [List.length_take] at this
      omega
    rw [List.getElem?_take_of_lt hji] at hj
    exact hok j x hji hj
  have h2 := flat_len h1
  unfold seen
  rw [List.length_append, hr, Option.getD_some, List.length_take]
  rw [List.length_take] at h2
  omega
set_option maxRecDepth 100000 in
set_option maxHeartbeats 1000000 in
theorem uses_any {S : Nat → Prop} {w : World} {aP aU aR : Option Addr} {nP nU nR cP cU cR : Nat} {s : Store} (h : StAt S w aP aU aR nP nU nR s) (hS : ∀ b, S b → b < w.heap.size) (h1 : nP ≤ 400) (h2 : nR ≤ 40) :
    Calls Try.prog 40 #[stV aP aU aR nP nU nR cP cU cR] w (UsesPost w s) := by
  have HA : Hid (∀ w', RowKit.Below w.heap.size w w' → Arr S w' aR s.roots) := fun w' hb => (h.below hS hb).roots
  have HLP := Lib.hid h.lenP; have HLR := Lib.hid h.lenR
  have HST : Hid (∀ b, S b → b < w.heap.size) := hS
  clear h hS
  go_enter Try.func40, Try.ntmps40
  have HBX : Hid (∀ w', RowKit.Below (w.alloc (.cells #[.slice aP nP cP, .slice aU nU cU, .slice aR nR cR] 26)).heap.size (w.alloc (.cells #[.slice aP nP cP, .slice aU nU cU, .slice aR nR cR] 26)) w' → w'.cell? ⟨w.heap.size, 0, none⟩ = some (.slice aP nP cP) ∧ w'.cell? ⟨w.heap.size, 1, none⟩ = some (.slice aU nU cU) ∧ w'.cell? ⟨w.heap.size, 2, none⟩ = some (.slice aR nR cR)) := fun w' hb => box_cells hb
  have HMK : Hid (∀ w', Blk w' (w.alloc (.cells #[.slice aP nP cP, .slice aU nU cU, .slice aR nR cR] 26)).heap.size 3 (List.replicate nP (.int .i64 0)) → RowKit.Below (w.alloc (.cells #[.slice aP nP cP, .slice aU nU cU, .slice aR nR cR] 26)).heap.size (w.alloc (.cells #[.slice aP nP cP, .slice aU nU cU, .slice aR nR cR] 26)) w' → RowKit.Below w.heap.size w w' ∧ Blk w' (w.heap.size + 1) 3 (intsV (outOf s.pages.length (seen s.roots 0 0)))) := fun w' hblk hbel => by
    have hge : (w.alloc (.cells #[.slice aP nP cP, .slice aU nU cU, .slice aR nR cR] 26)).heap.size = w.heap.size + 1 := by simp
    rw [hge] at hblk
    refine ⟨((RowKit.Below.refl _ _).alloc (Nat.le_refl _) _).trans (hbel.mono (by simp)), ?_⟩
    rw [seen_zero, HLP.out]
    have e : intsV (outOf nP []) = List.replicate nP (.int .i64 0) := by
      unfold intsV outOf
      rw [List.map_map]
      apply List.ext_getElem
      · simp
      · intro i h1 h2
        simp [cnt_nil]
    rw [e]
    exact hblk
  go_wp2_with (with_reducible refine wp_make (n := nP) rfl rfl Try.underlying23 Try.info3 rfl rfl rfl (by omega) (by unfold maxLen; omega) fun w1 hblk hbel hsz => ?_; obtain ⟨x0, x1, x2⟩ := HBX.out w1 hbel; obtain ⟨hb1, hk1⟩ := HMK.out w1 hblk hbel; have HB1 := Lib.hid hb1; have HK1 := Lib.hid hk1; clear hblk hbel hsz hb1 hk1)
  obtain ⟨g, hg⟩ : ∃ g, g = w.heap.size + 1 := ⟨_, rfl⟩
  have HGW : Hid (w.heap.size < g) := by show _ < _; omega
  rw [← hg] at HK1 ⊢
  clear HBX HMK hg x0 x1 x2
  go_loopw [16] (fun v w' => uRel w s g nR v w') (fun i _ => nR - (intOf i).toNat)
  case atStart => exact ⟨0, Nat.zero_le _, rfl, HK1.out, fun j r hj => absurd hj (Nat.not_lt_zero _), HB1.out⟩
  case round =>
  clear HK1 HB1
  obtain ⟨i, hi, rfl, hbk, hok, hbel⟩ := hrel
  have HBK := Lib.hid hbk; have HOK := Lib.hid hok; have HBE := Lib.hid hbel
  by_cases hin : i < nR
  case neg =>
    have hin2 : i = nR := by omega
    clear hbk hok hbel
    go_wp2_with fail
    go_ret2
    have hlen : seen s.roots i 0 = s.roots.flatten := by rw [hin2, ← HLR.out, seen_all]
    refine .inl ⟨fun r hr => ?_, some ⟨g, 0, none⟩, nP, by rw [HLP.out]; rfl, ?_, HBE.out⟩
    · obtain ⟨j, hj⟩ := List.getElem?_of_mem hr
      exact HOK.out j r (by rw [hin2, ← HLR.out]; exact (List.getElem?_eq_some_iff.1 hj).1) hj
    · have hbk := HBK.out
      rw [hlen] at hbk
      refine arr_ints hbk ?_ ⟨by have := HGW.out; omega, hbk.lt⟩ ?_
      · rw [outOf_len, HLP.out]; unfold maxLen; omega
      · intro z hz
        unfold outOf at hz
        obtain ⟨j, -, rfl⟩ := List.mem_map.1 hz
        have h3 := flat_len (P := s.pages.length) (l := s.roots) (fun r hr => by
          obtain ⟨j, hj⟩ := List.getElem?_of_mem hr
          exact HOK.out j r (by rw [hin2, ← HLR.out]; exact (List.getElem?_eq_some_iff.1 hj).1) hj)
        have h4 := cnt_range s.roots.flatten (j : Int)
        rw [HLR.out] at h3
        unfold I64
        omega
  case pos =>
  obtain ⟨r, hr⟩ : ∃ r, s.roots[i]? = some r := ⟨_, List.getElem?_eq_getElem (by rw [HLR.out]; exact hin)⟩
  obtain ⟨b1, o1, a', c', rfl, -, q0, hlc, hn', harr⟩ := row_elem (HA.out _ hbel) hr
  have HR := Lib.hid hr
  have HAR : Hid (∀ w', RowKit.Below w.heap.size w w' → Arr S w' a' r) := fun w' hb => harr.keep (fun b hb' => (hb.block b (HST.out b hb')).trans (hbel.block b (HST.out b hb')).symm)
  have HBAD : Hid (¬ okRow s.pages.length r → ¬ okRoots s.pages.length s.roots) := fun h h' => h (h' r (List.mem_of_getElem? hr))
  obtain ⟨m, hm⟩ : ∃ m, m = r.length := ⟨_, rfl⟩
  rw [← hm] at q0 hlc
  have HM := Lib.hid hm
  clear harr hbk hok hbel hr
  by_cases hm0 : m = 0
  · subst hm0
    have HE : Hid (seen s.roots i 0 = seen s.roots (i + 1) 0) := by show _ = _; rw [← seen_row HR.out, ← HM.out]
    have HN : Hid (∀ j r', j < i + 1 → s.roots[j]? = some r' → okRow s.pages.length r') := fun j r' hj hr' => by
      by_cases e : j = i
      · subst e
        rw [HR.out] at hr'
        obtain rfl := Option.some.inj hr'
        exact ⟨.inl HM.out.symm, fun p hp => by rw [List.eq_nil_of_length_eq_zero HM.out.symm] at hp; simp at hp⟩
      · exact HOK.out j r' (by omega) hr'
    clear hm
    go_wp2_with fail
    go_loopw [30] (fun v w' => v = .int .i64 0 ∧ Blk w' g 3 (intsV (outOf s.pages.length (seen s.roots i 0))) ∧ RowKit.Below w.heap.size w w') (fun _ _ => 0)
    case atStart => exact ⟨rfl, HBK.out, HBE.out⟩
    case round =>
    obtain ⟨rfl, hbk, hbel⟩ := hrel
    have HBK2 := Lib.hid hbk; have HBE2 := Lib.hid hbel
    clear hbk hbel
    go_wp2_with fail
    go_roundw
    case rel => exact ⟨i + 1, by omega, by go_num, HE.out ▸ HBK2.out, HN.out, HBE2.out⟩
    case measure => simp [intOf]; omega
  by_cases hm16 : m = 16
  case neg =>
    have HF : Hid (¬ okRoots s.pages.length s.roots) := HBAD.out fun h => by have := h.1; have := HM.out; omega
    have d1 : ((m : Int) != 0) = true := by simp; omega
    have d2 : ((m : Int) != 16) = true := by simp; omega
    clear hm hm0 hm16
    go_wp2_with fail
    go_ret2
    exact .inr ⟨HF.out, none, 0, 0, rfl, HBE.out⟩
  case pos =>
  subst hm16
  clear hm hm0
  go_wp2_with fail
  go_loopw [30] (fun v w' => vRel w s g i r v w') (fun k _ => 16 - (intOf k).toNat)
  case atStart => exact ⟨0, Nat.zero_le _, rfl, HBK.out, fun j p hj => absurd hj (Nat.not_lt_zero _), HBE.out⟩
  case round =>
  obtain ⟨k, hk, rfl, hbk, hokp, hbel⟩ := hrel
  rw [← HM.out] at hk
  have HBK2 := Lib.hid hbk; have HOKP := Lib.hid hokp; have HBE2 := Lib.hid hbel
  by_cases hkm : k < 16
  case neg =>
    have hk16 : k = 16 := by omega
    have HE : Hid (seen s.roots i k = seen s.roots (i + 1) 0) := by show _ = _; rw [← seen_row HR.out, ← HM.out, hk16]
    have HN : Hid (∀ j r', j < i + 1 → s.roots[j]? = some r' → okRow s.pages.length r') := fun j r' hj hr' => by
      by_cases e : j = i
      · subst e
        rw [HR.out] at hr'
        obtain rfl := Option.some.inj hr'
        refine ⟨.inr HM.out.symm, fun p hp => ?_⟩
        obtain ⟨j2, hj2⟩ := List.getElem?_of_mem hp
        exact HOKP.out j2 p (by rw [hk16, HM.out]; exact (List.getElem?_eq_some_iff.1 hj2).1) hj2
      · exact HOK.out j r' (by omega) hr'
    clear hbk hokp hbel
    go_wp2_with fail
    go_roundw
    case rel => exact ⟨i + 1, by omega, by go_num, HE.out ▸ HBK2.out, HN.out, HBE2.out⟩
    case measure => simp [intOf]; omega
  case pos =>
  obtain ⟨p, hp⟩ : ∃ p, r[k]? = some p := ⟨_, List.getElem?_eq_getElem (by rw [← HM.out]; exact hkm)⟩
  obtain ⟨b2, o2, rfl, -, y0, i0⟩ := arr_int (HAR.out _ hbel) hp
  have HP := Lib.hid hp
  have hslen := seen_len HR.out (.inr HM.out.symm) HOK.out (by rw [HLR.out]; exact h2) k
  have hsn := seen_next HR.out hp
  have hgl := hbk.lt
  by_cases hok : okP nP p
  case neg =>
    have HF : Hid (¬ okRoots s.pages.length s.roots) := HBAD.out fun h => hok (by have := h.2 p (List.mem_of_getElem? HP.out); rw [HLP.out] at this; exact this)
    have d1 : (p == -1) = false := by simp; intro e; exact hok ⟨by omega, by omega⟩
    have hc : decide (p < 0) = true ∨ (decide (p < 0) = false ∧ decide ((nP : Int) ≤ p) = true) := by
      unfold okP at hok
      simp only [decide_eq_true_eq, decide_eq_false_iff_not]
      have : p ≠ -1 := by simpa using d1
      omega
    clear hbk hokp hbel hp hsn hslen hok
    rcases hc with d2 | ⟨d2, d3⟩
    all_goals
      go_wp2_with fail
      go_ret2
      exact .inr ⟨HF.out, none, 0, 0, rfl, HBE2.out⟩
  case pos =>
  have HOK3 : Hid (∀ j p', j < k + 1 → r[j]? = some p' → okP s.pages.length p') := fun j p' hj hp' => by
    by_cases e : j = k
    · subst e
      rw [HP.out] at hp'
      obtain rfl := Option.some.inj hp'
      rw [HLP.out]; exact hok
    · exact HOKP.out j p' (by omega) hp'
  by_cases hp1 : p = -1
  · have d1 : (p == -1) = true := by simp [hp1]
    have HE : Hid (outOf s.pages.length (seen s.roots i (k + 1)) = outOf s.pages.length (seen s.roots i k)) := by show _ = _; rw [hsn, hp1, outOf_none]
    clear hbk hokp hbel hp hsn hslen hok hp1
    go_wp2_with fail
    go_roundw
    case rel => exact ⟨k + 1, by rw [← HM.out]; omega, by go_num, HE.out ▸ HBK2.out, HOK3.out, HBE2.out⟩
    case measure => simp [intOf]; omega
  · have d1 : (p == -1) = false := by simp [hp1]
    obtain ⟨q, rfl⟩ : ∃ q : Nat, p = (q : Int) := ⟨p.toNat, by unfold okP at hok; omega⟩
    have hq : q < nP := by unfold okP at hok; omega
    have hc := outOf_at (P := s.pages.length) (l := seen s.roots i k) (j := q) (by rw [HLP.out]; exact hq)
    have hcr := cnt_range (seen s.roots i k) (q : Int)
    obtain ⟨cc, hcc⟩ : ∃ cc, cc = cnt (seen s.roots i k) (q : Int) := ⟨_, rfl⟩
    rw [← hcc] at hc hcr
    have c4 := hbk.cell (intsV_get hc)
    have f4 := hbk.frozen q
    have hcb : 0 ≤ cc ∧ cc ≤ 1000 := by omega
    have hcb1 := hcb.1; have hcb2 := hcb.2
    have HE : Hid (Blk (wr.setCell ⟨g, q, none⟩ (.int .i64 (cc + 1))) g 3 (intsV (outOf s.pages.length (seen s.roots i (k + 1))))) := by
      have h := hbk.set q (.int .i64 (cc + 1))
      rw [intsV_set] at h
      rw [hsn, outOf_more (by rw [HLP.out]; exact hq), ← hcc]
      exact h
    have HBS : Hid (RowKit.Below w.heap.size w (wr.setCell ⟨g, q, none⟩ (.int .i64 (cc + 1)))) := hbel.setCell (p := ⟨g, q, none⟩) (by show w.heap.size ≤ g; have := HGW.out; omega) _
    clear hbk hokp hbel hp hsn hslen hok hc hcr hcc hcb hp1
    go_wp2_with fail
    go_roundw
    case rel => exact ⟨k + 1, by rw [← HM.out]; omega, by go_num, HE.out, HOK3.out, HBS.out⟩
    case measure => simp [intOf]; omega
end Go.Proofs.Ytjlnaiiajlahgaa.pag
