/- PagesTells: the document's counted: walked. -/
import Derived.Test.YtjlnaiiajlahgaaPagJ
import Derived.Test.YtjlnaiiajlahgaaApp4
import Derived.Laws.Rows
set_option linter.unusedVariables false
set_option linter.unusedSimpArgs false
namespace Go.Proofs.Ytjlnaiiajlahgaa.pag
open Go.Bk Go.RowKit

/-- The pages that somebody has. -/
def keptTo (s : Store) (n : Nat) : List Four := (List.range n).map fun (i : Nat) => if cnt s.roots.flatten (i : Int) = 0 then zero4 else (s.pages[i]?).getD zero4
theorem keptTo_succ (s : Store) (n : Nat) : keptTo s (n + 1) = keptTo s n ++ [if cnt s.roots.flatten (n : Int) = 0 then zero4 else (s.pages[n]?).getD zero4] := by unfold keptTo; rw [List.range_succ, List.map_append]; rfl
theorem keptTo_len (s : Store) (n : Nat) : (keptTo s n).length = n := by unfold keptTo; simp
theorem outOf_succ (l : List Int) (n : Nat) : outOf (n + 1) l = outOf n l ++ [cnt l (n : Int)] := by unfold outOf; rw [List.range_succ, List.map_append]; rfl
def countedOf (s : Store) : Store := ⟨keptTo s s.pages.length, outOf s.pages.length s.roots.flatten, s.roots⟩
/-- A store under way in a box g, its pages and its uses the call's own. -/
structure KSt (w w' : World) (g : Nat) (vR : Value) (bx : List Value) (vP vU : Value) (ps : List Four) (us : List Int) : Prop where
  out : Blk w' g 26 [vP, vU, vR]
  pages : Own (fun _ => False) w' (g + 1) 64 vP ps
  uses : Own (fun _ => False) w' (g + 1) 3 vU us
  apart : Apart vP vU
  box : Blk w' w.heap.size 26 bx
  res : Blk w' (w.heap.size + 1) 26 [.slice none 0 0, .slice none 0 0, .slice none 0 0]
  below : RowKit.Below w.heap.size w w'
  at' : g = w.heap.size + 2
section
variable {w w1 w2 : World} {g : Nat} {vR vP vU vP' vU' : Value} {bx : List Value} {ps : List Four} {us : List Int}
theorem KSt.keep (h : KSt w w1 g vR bx vP vU ps us) (hb : RowKit.Below w1.heap.size w1 w2) : KSt w w2 g vR bx vP vU ps us :=
  ⟨h.out.keep (hb.block _ h.out.lt), h.pages.below hb (fun _ h => h.elim), h.uses.below hb (fun _ h => h.elim), h.apart, h.box.keep (hb.block _ h.box.lt), h.res.keep (hb.block _ h.res.lt), h.below.trans (hb.mono h.below.size), h.at'⟩
theorem KSt.pushP {p : Four} (h : KSt w w1 g vR bx vP vU ps us) (h1 : Own (fun _ => False) w2 (g + 1) 64 vP' (ps ++ [p])) (hg : w1.grownBy w2 vP.ownBlock) (hst : Stay w1 vP vP') : KSt w (w2.setCell ⟨g, 0, none⟩ vP') g vR bx vP' vU (ps ++ [p]) us := by
  have hn : ∀ b, b ≤ g → vP.ownBlock ≠ some b := fun b hb e => by have := (h.pages.lt b e).1; omega
  have hgs : w2.grownBy (w2.setCell ⟨g, 0, none⟩ vP') (some g) := grownBy_setCell (World.grownBy.refl _ _) _ _
  have ha := h.at'
  have hU := h.uses.apart hg h.apart (fun _ h => h.elim)
  refine ⟨?_, h1.keep hgs (.inr fun e => by have := (h1.lt g e).1; omega) (fun _ h => h.elim), hU.keep hgs (.inr fun e => by have := (hU.lt g e).1; omega) (fun _ h => h.elim), h.apart.moved hst (fun k hk => (h.uses.lt k hk).2), ?_, ?_, ?_, h.at'⟩
  · exact (h.out.keep (hg.block g h.out.lt (fun e => hn g (Nat.le_refl _) e.symm))).set 0 vP'
  · exact (h.box.keep (hg.block _ h.box.lt (fun e => hn _ (by omega) e.symm))).keep (hgs.block _ (Nat.lt_of_lt_of_le h.box.lt hg.size) (fun e => by have := Option.some.inj e; omega))
  · exact (h.res.keep (hg.block _ h.res.lt (fun e => hn _ (by omega) e.symm))).keep (hgs.block _ (Nat.lt_of_lt_of_le h.res.lt hg.size) (fun e => by have := Option.some.inj e; omega))
  · have hb2 := h.below.grown hg h.below.size (fun r hr => by have := (h.pages.lt r hr).1; omega)
    exact hb2.setCell (p := ⟨g, 0, none⟩) (by show w.heap.size ≤ g; omega) _
theorem KSt.pushU {c : Int} (h : KSt w w1 g vR bx vP vU ps us) (h1 : Own (fun _ => False) w2 (g + 1) 3 vU' (us ++ [c])) (hg : w1.grownBy w2 vU.ownBlock) (hst : Stay w1 vU vU') : KSt w (w2.setCell ⟨g, 1, none⟩ vU') g vR bx vP vU' ps (us ++ [c]) := by
  have hn : ∀ b, b ≤ g → vU.ownBlock ≠ some b := fun b hb e => by have := (h.uses.lt b e).1; omega
  have hgs : w2.grownBy (w2.setCell ⟨g, 1, none⟩ vU') (some g) := grownBy_setCell (World.grownBy.refl _ _) _ _
  have ha := h.at'
  have hP := h.pages.apart hg h.apart.symm (fun _ h => h.elim)
  refine ⟨?_, hP.keep hgs (.inr fun e => by have := (hP.lt g e).1; omega) (fun _ h => h.elim), h1.keep hgs (.inr fun e => by have := (h1.lt g e).1; omega) (fun _ h => h.elim), (h.apart.symm.moved hst (fun k hk => (h.pages.lt k hk).2)).symm, ?_, ?_, ?_, h.at'⟩
  · exact (h.out.keep (hg.block g h.out.lt (fun e => hn g (Nat.le_refl _) e.symm))).set 1 vU'
  · exact (h.box.keep (hg.block _ h.box.lt (fun e => hn _ (by omega) e.symm))).keep (hgs.block _ (Nat.lt_of_lt_of_le h.box.lt hg.size) (fun e => by have := Option.some.inj e; omega))
  · exact (h.res.keep (hg.block _ h.res.lt (fun e => hn _ (by omega) e.symm))).keep (hgs.block _ (Nat.lt_of_lt_of_le h.res.lt hg.size) (fun e => by have := Option.some.inj e; omega))
  · have hb2 := h.below.grown hg h.below.size (fun r hr => by have := (h.uses.lt r hr).1; omega)
    exact hb2.setCell (p := ⟨g, 1, none⟩) (by show w.heap.size ≤ g; omega) _
end
theorem own_base {α : Type} [Rep α] {S : Nat → Prop} {w : World} {B B' : Nat} {e : TypeId} {v : Value} {xs : List α} (h : Own S w B e v xs) (hB : B' ≤ B) : Own S w B' e v xs := by
  obtain ⟨css, h1, h2, h3, h4⟩ := h
  refine ⟨css, h1, h2, h3, ?_⟩
  rcases h4 with h4 | ⟨g, cap, cur, h4, h5, h6⟩
  · exact .inl h4
  · exact .inr ⟨g, cap, cur, h4, Nat.le_trans hB h5, h6⟩
/-- The box, behind an append to a row of the store's own. -/
theorem KSt.boxP {w w1 w2 : World} {g : Nat} {vR vP vU : Value} {bx : List Value} {ps : List Four} {us : List Int} (h : KSt w w1 g vR bx vP vU ps us) (hg : w1.grownBy w2 vP.ownBlock) : Blk w2 g 26 [vP, vU, vR] :=
  h.out.keep (hg.block g h.out.lt (fun e => by have := (h.pages.lt g e.symm).1; omega))
theorem KSt.boxU {w w1 w2 : World} {g : Nat} {vR vP vU : Value} {bx : List Value} {ps : List Four} {us : List Int} (h : KSt w w1 g vR bx vP vU ps us) (hg : w1.grownBy w2 vU.ownBlock) : Blk w2 g 26 [vP, vU, vR] :=
  h.out.keep (hg.block g h.out.lt (fun e => by have := (h.uses.lt g e.symm).1; omega))
theorem int_cells {n : Int} (h : I64 n) (S : Nat → Prop) (w : World) : Rep.cells S w [.int .i64 n] n := ⟨rfl, h⟩
theorem I64_cnt {l : List Int} {p : Int} (h : l.length ≤ 1000000000) : I64 (cnt l p) := by
  have := cnt_range l p
  unfold I64
  omega
/-- What comes back: pages and uses of one's own, the rows as they were handed in. -/
def CntPost (w : World) (s : Store) (aR : Option Addr) (nR cR : Nat) (e : Ending) (w' : World) : Prop :=
  ∃ vP vU, e = .returned (.agg #[vP, vU, .slice aR nR cR]) ∧ Own (fun _ => False) w' w.heap.size 64 vP (countedOf s).pages ∧ Own (fun _ => False) w' w.heap.size 3 vU (countedOf s).uses ∧ RowKit.Below w.heap.size w w'
def kRel (w : World) (s : Store) (g nP : Nat) (vR : Value) (bx : List Value) (v4 : Value) (w' : World) : Prop :=
  ∃ k : Nat, k ≤ nP ∧ v4 = .int .i64 k ∧ ∃ vP vU, KSt w w' g vR bx vP vU (keptTo s k) (outOf k s.roots.flatten)
set_option maxRecDepth 100000 in
set_option maxHeartbeats 4000000 in
theorem counted_any {S : Nat → Prop} {w : World} {aP aU aR : Option Addr} {nP nU nR cP cU cR : Nat} {s : Store} (h : StAt S w aP aU aR nP nU nR s) (hS : ∀ b, S b → b < w.heap.size) (hs : Short s) (hP : nP ≤ 1000) (hI : ∀ x ∈ s.pages, I64 x.1 ∧ I64 x.2.1 ∧ I64 x.2.2.1 ∧ I64 x.2.2.2) :
    Calls Try.prog 39 #[stV aP aU aR nP nU nR cP cU cR] w (CntPost w s aR nR cR) := by
  have HST : Hid (∀ w', RowKit.Below w.heap.size w w' → StAt S w' aP aU aR nP nU nR s) := fun w' hb => h.below hS hb
  have HLP := Lib.hid h.lenP
  have HSS : Hid (∀ b, S b → b < w.heap.size) := hS
  have HSH := Lib.hid hs
  have HIN : Hid (∀ x ∈ s.pages, I64 x.1 ∧ I64 x.2.1 ∧ I64 x.2.2.1 ∧ I64 x.2.2.2) := hI
  clear h hS hs hI
  have HK0 : Hid (KSt w (((w.alloc (.cells #[.slice aP nP cP, .slice aU nU cU, .slice aR nR cR] 26)).alloc (.cells #[.slice none 0 0, .slice none 0 0, .slice none 0 0] 26)).alloc (.cells #[.slice none 0 0, .slice none 0 0, .slice aR nR cR] 26)) (w.heap.size + 2) (.slice aR nR cR) [.slice aP nP cP, .slice aU nU cU, .slice aR nR cR] (.slice none 0 0) (.slice none 0 0) (keptTo s 0) (outOf 0 s.roots.flatten)) := by
    have e1 : (w.alloc (.cells #[.slice aP nP cP, .slice aU nU cU, .slice aR nR cR] 26)).heap.size = w.heap.size + 1 := by simp
    have e2 : ((w.alloc (.cells #[.slice aP nP cP, .slice aU nU cU, .slice aR nR cR] 26)).alloc (.cells #[.slice none 0 0, .slice none 0 0, .slice none 0 0] 26)).heap.size = w.heap.size + 2 := by simp
    have b3 := blk_new ((w.alloc (.cells #[.slice aP nP cP, .slice aU nU cU, .slice aR nR cR] 26)).alloc (.cells #[.slice none 0 0, .slice none 0 0, .slice none 0 0] 26)) [.slice none 0 0, .slice none 0 0, .slice aR nR cR] 26
    have b2 := blk_new (w.alloc (.cells #[.slice aP nP cP, .slice aU nU cU, .slice aR nR cR] 26)) [.slice none 0 0, .slice none 0 0, .slice none 0 0] 26
    have b1 := blk_new w [.slice aP nP cP, .slice aU nU cU, .slice aR nR cR] 26
    rw [e2] at b3
    rw [e1] at b2
    exact ⟨b3, Own.nil _ _ _ _, Own.nil _ _ _ _, Apart.nil_left _ _ _, (b1.keep (Below.heap_alloc _ _ _ (by simp))).keep (Below.heap_alloc _ _ _ (by simp; omega)), b2.keep (Below.heap_alloc _ _ _ (by simp)), (((RowKit.Below.refl _ _).alloc (Nat.le_refl _) _).alloc (by simp) _).alloc (by simp; omega) _, rfl⟩
  go_enter Try.func39, Try.ntmps39
  go_wp2_with fail
  obtain ⟨g, hg⟩ : ∃ g, g = w.heap.size + 1 + 1 := ⟨_, rfl⟩
  rw [← hg]
  have HK1 := HK0
  rw [show w.heap.size + 2 = g by omega] at HK1
  clear HK0
  generalize ((w.alloc (.cells #[.slice aP nP cP, .slice aU nU cU, .slice aR nR cR] 26)).alloc (.cells #[.slice none 0 0, .slice none 0 0, .slice none 0 0] 26)).alloc (.cells #[.slice none 0 0, .slice none 0 0, .slice aR nR cR] 26) = w1 at *
  have HG := Lib.hid hg
  clear hg
  go_loopw [4] (fun v w' => kRel w s g nP (.slice aR nR cR) [.slice aP nP cP, .slice aU nU cU, .slice aR nR cR] v w') (fun i _ => nP - (intOf i).toNat)
  case atStart => exact ⟨0, Nat.zero_le _, rfl, _, _, HK1.out⟩
  case round =>
  clear HK1
  obtain ⟨k, hk, rfl, vP, vU, hks⟩ := hrel
  obtain ⟨pa, pc, rfl, -, -, -⟩ := hks.pages.arr
  obtain ⟨ua, uc, rfl, -, -, -⟩ := hks.uses.arr
  rw [keptTo_len, outOf_len] at hks
  have HK := Lib.hid hks
  have x0 := hks.box.cell (j := 0) rfl; have x1 := hks.box.cell (j := 1) rfl; have x2 := hks.box.cell (j := 2) rfl
  have c0 := hks.out.cell (j := 0) rfl; have c1 := hks.out.cell (j := 1) rfl; have c2 := hks.out.cell (j := 2) rfl
  by_cases hkn : k < nP
  case neg =>
    have hke : k = nP := by omega
    have HKE := Lib.hid hke
    have r0 := hks.res.cell (j := 0) rfl; have r1 := hks.res.cell (j := 1) rfl; have r2 := hks.res.cell (j := 2) rfl
    have f0 := hks.res.frozen 0; have f1 := hks.res.frozen 1; have f2 := hks.res.frozen 2
    have HF : Hid (Blk (((wr.setCell ⟨w.heap.size + 1, 0, none⟩ (.slice pa k pc)).setCell ⟨w.heap.size + 1, 1, none⟩ (.slice ua k uc)).setCell ⟨w.heap.size + 1, 2, none⟩ (.slice aR nR cR)) (w.heap.size + 1) 26 [(.slice pa k pc), (.slice ua k uc), .slice aR nR cR]) := ((hks.res.set 0 (.slice pa k pc)).set 1 (.slice ua k uc)).set 2 _
    have HGR : Hid (wr.grownBy (((wr.setCell ⟨w.heap.size + 1, 0, none⟩ (.slice pa k pc)).setCell ⟨w.heap.size + 1, 1, none⟩ (.slice ua k uc)).setCell ⟨w.heap.size + 1, 2, none⟩ (.slice aR nR cR)) (some (w.heap.size + 1))) := grownBy_setCell (grownBy_setCell (grownBy_setCell (World.grownBy.refl _ _) _ _) _ _) _ _
    clear hks hke
    go_wp2_with fail
    (try simp only [Exit.inBlock, Exit.then])
    refine bodyPost_ret (results_cell_row rfl _ _ _ _ _ _ _ rfl HF.out Try.underlying26 rfl rfl) rfl ?_
    have hh := HK.out
    have hgg := HG.out
    refine ⟨_, _, rfl, ?_, ?_, hh.below.grown HGR.out hh.below.size (fun r hr => by cases hr; omega)⟩
    · have h1 := hh.pages.keep HGR.out (.inr fun e => by have := (hh.pages.lt _ e).1; omega) (fun _ h => h.elim)
      rw [show (countedOf s).pages = keptTo s k from by unfold countedOf; rw [HLP.out, HKE.out]]
      exact own_base h1 (by omega)
    · have h1 := hh.uses.keep HGR.out (.inr fun e => by have := (hh.uses.lt _ e).1; omega) (fun _ h => h.elim)
      rw [show (countedOf s).uses = outOf k s.roots.flatten from by unfold countedOf; rw [HLP.out, HKE.out]]
      exact own_base h1 (by omega)
  case pos =>
  obtain ⟨x, hx⟩ : ∃ x, s.pages[k]? = some x := ⟨_, List.getElem?_eq_getElem (by rw [HLP.out]; exact hkn)⟩
  obtain ⟨z0, z1, z2, z3⟩ := x
  obtain ⟨b1, o1, rfl, -⟩ := int4_elem (HST.out _ hks.below).pages hx
  have HPG : Hid (∀ w', RowKit.Below w.heap.size w w' → w'.cell? ⟨b1, o1 + k * 4, none⟩ = some (.int .i64 z0) ∧ w'.cell? ⟨b1, o1 + k * 4 + 1, none⟩ = some (.int .i64 z1) ∧ w'.cell? ⟨b1, o1 + k * 4 + 2, none⟩ = some (.int .i64 z2) ∧ w'.cell? ⟨b1, o1 + k * 4 + 3, none⟩ = some (.int .i64 z3)) := fun w' hb => by
    obtain ⟨b2, o2, e, -, p0, p1, p2, p3, -⟩ := int4_elem (HST.out w' hb).pages hx
    injection e with e; injection e with e1 e2
    subst e1 e2
    exact ⟨p0, p1, p2, p3⟩
  have HPI := Lib.hid (HIN.out _ (List.mem_of_getElem? hx))
  have HPU : Hid (Calls Try.prog 38 #[stV (some ⟨b1, o1, none⟩) aU aR nP nU nR cP cU cR, .int .i64 (k : Int)] wr (CodePost wr (cnt s.roots.flatten (k : Int)))) := puses_any (HST.out _ hks.below) (fun b hb => Nat.lt_of_lt_of_le (HSS.out b hb) hks.below.size) HSH.out
  obtain ⟨c, hc⟩ : ∃ c, c = cnt s.roots.flatten (k : Int) := ⟨_, rfl⟩
  rw [← hc] at HPU
  have hic : I64 c := by
    rw [hc]
    have := short_len HSH.out.2
    have := HSH.out.1
    exact I64_cnt (by omega)
  have HKS : Hid (keptTo s (k + 1) = keptTo s k ++ [if c = 0 then zero4 else (z0, z1, z2, z3)] ∧ outOf (k + 1) s.roots.flatten = outOf k s.roots.flatten ++ [c]) := by
    show _ ∧ _
    rw [keptTo_succ, outOf_succ, ← hc, hx]
    exact ⟨rfl, rfl⟩
  have HLEN : Hid ((keptTo s k).length = k ∧ (outOf k s.roots.flatten).length = k) := ⟨keptTo_len s k, outOf_len k _⟩
  have HFP : Hid (∀ (W : World) (v : Value) (y : Four), Go.Bk.Own (fun _ => False) W (g + 1) 64 v (keptTo s k ++ [y]) → ∃ a c, v = .slice a (k + 1) c) := fun W v y h => by
    obtain ⟨a, c, e, -⟩ := h.arr
    exact ⟨a, c, by rw [e, List.length_append, HLEN.out.1]; rfl⟩
  have HFU : Hid (∀ (W : World) (v : Value) (y : Int), Go.Bk.Own (fun _ => False) W (g + 1) 3 v (outOf k s.roots.flatten ++ [y]) → ∃ a c, v = .slice a (k + 1) c) := fun W v y h => by
    obtain ⟨a, c, e, -⟩ := h.arr
    exact ⟨a, c, by rw [e, List.length_append, HLEN.out.2]; rfl⟩
  have HKU : Hid (∀ w3, RowKit.Below wr.heap.size wr w3 → KSt w w3 g (.slice aR nR cR) [.slice (some ⟨b1, o1, none⟩) nP cP, .slice aU nU cU, .slice aR nR cR] (.slice pa k pc) (.slice ua k uc) (keptTo s k) (outOf k s.roots.flatten)) := fun w3 hb => HK.out.keep hb
  clear hks hx hc
  by_cases hcz : c = 0
  · have dc : (c == 0) = true := by simp [hcz]
    have HE : Hid (keptTo s (k + 1) = keptTo s k ++ [zero4]) := by show _ = _; rw [HKS.out.1, if_pos hcz]
    clear hcz
    have HZI : Hid (I64 0 ∧ I64 0 ∧ I64 0 ∧ I64 0) := ⟨by unfold I64; omega, by unfold I64; omega, by unfold I64; omega, by unfold I64; omega⟩
    have HCL : Hid (∀ w', Rep.cells (fun _ => False) w' (fourV zero4) (zero4 : Four)) := fun w' => cells_int4_mk HZI.out.1 HZI.out.2.1 HZI.out.2.2.1 HZI.out.2.2.2
    have HB1C : Hid (∀ w4, Blk w4 g 26 [(.slice pa k pc), (.slice ua k uc), .slice aR nR cR] → w4.cell? ⟨g, 1, none⟩ = some (.slice ua k uc)) := fun w4 h => h.cell (j := 1) rfl
    have HB1D : Hid (∀ w4 v4, Blk w4 g 26 [v4, (.slice ua k uc), .slice aR nR cR] → w4.cell? ⟨g, 1, none⟩ = some (.slice ua k uc)) := fun w4 v4 h => h.cell (j := 1) rfl
    go_wp2_with (first
      | (go_at_call 38; (with_reducible refine HPU.out.mono ?_); rintro e w3 ⟨rfl, hb3⟩; have hk3 := HKU.out w3 hb3; (obtain ⟨p0, p1, p2, p3⟩ := HPG.out w3 hk3.below); have y0 := hk3.box.cell0; have c0' := hk3.out.cell0; have HA3 := Lib.hid (hk3.keep ((RowKit.Below.refl _ _).alloc (Nat.le_refl _) (.cells #[.int .i64 0, .int .i64 0, .int .i64 0, .int .i64 0] 64))); have HA3P : Hid (Go.Bk.Own (fun _ => False) (w3.alloc (.cells #[.int .i64 0, .int .i64 0, .int .i64 0, .int .i64 0] 64)) (g + 1) 64 (.slice pa k pc) (keptTo s k)) := HA3.out.pages; have hlt3 := hk3.out.lt; have hlb3 := hk3.box.lt; have HGS := HA3.out.out.lt; clear hb3 hk3)
      | (at_builtin; (with_reducible refine wp_appd4 rfl rfl rfl rfl rfl (by first | rfl | simp) HA3P.out (HCL.out _) (fun _ h => h.elim) (by rw [HLEN.out.1]; omega) (Nat.succ_le_of_lt HGS) fun v4' w4 hown4 hg4 hst4 => ?_); (obtain ⟨pa4, pc4, rfl⟩ := HFP.out _ _ _ hown4); have hbx4 := HA3.out.boxP hg4; have g0 := hbx4.cell0; have fr0 := hbx4.frozen 0; have g1 := HB1C.out w4 hbx4; have HB4 := Lib.hid (HA3.out.pushP hown4 hg4 hst4); have HB4U := Lib.hid HB4.out.uses; have HGT := HB4.out.out.lt; clear hown4 hg4 hst4 hbx4)
      | (at_builtin; (at_builtin; with_reducible refine Try.wp_appd23 rfl rfl rfl rfl rfl (by first | rfl | simp) (HB4U.out) (int_cells hic _ _) (fun _ h => h.elim) (by (rw [HLEN.out.2]; omega)) (by exact Nat.succ_le_of_lt HGT) fun v' w' hown' hg' hst' => ?_); (obtain ⟨ua5, uc5, rfl⟩ := HFU.out _ _ _ hown'); have hbx5 := HB4.out.boxU hg'; have g2 := hbx5.cell0; have g3 := HB1D.out _ _ hbx5; have fr1 := hbx5.frozen 1; have HB5 := Lib.hid (HB4.out.pushU hown' hg' hst'); clear hown' hg' hst' hbx5))
    go_roundw
    case rel => exact ⟨k + 1, by omega, by go_num, _, _, by rw [HE.out, HKS.out.2]; exact HB5.out⟩
    case measure => simp [intOf]; omega
  · have dc : (c == 0) = false := by simp [hcz]
    have HE : Hid (keptTo s (k + 1) = keptTo s k ++ [(z0, z1, z2, z3)]) := by show _ = _; rw [HKS.out.1, if_neg hcz]
    clear hcz
    have HCL : Hid (∀ w', Rep.cells (fun _ => False) w' (fourV (z0, z1, z2, z3)) ((z0, z1, z2, z3) : Four)) := fun w' => cells_int4_mk HPI.out.1 HPI.out.2.1 HPI.out.2.2.1 HPI.out.2.2.2
    have HB1C : Hid (∀ w4, Blk w4 g 26 [(.slice pa k pc), (.slice ua k uc), .slice aR nR cR] → w4.cell? ⟨g, 1, none⟩ = some (.slice ua k uc)) := fun w4 h => h.cell (j := 1) rfl
    have HB1D : Hid (∀ w4 v4, Blk w4 g 26 [v4, (.slice ua k uc), .slice aR nR cR] → w4.cell? ⟨g, 1, none⟩ = some (.slice ua k uc)) := fun w4 v4 h => h.cell (j := 1) rfl
    go_wp2_with (first
      | (go_at_call 38; (with_reducible refine HPU.out.mono ?_); rintro e w3 ⟨rfl, hb3⟩; have hk3 := HKU.out w3 hb3; (obtain ⟨p0, p1, p2, p3⟩ := HPG.out w3 hk3.below); have y0 := hk3.box.cell0; have c0' := hk3.out.cell0; have HA3 := Lib.hid (hk3.keep ((RowKit.Below.refl _ _).alloc (Nat.le_refl _) (.cells #[.int .i64 z0, .int .i64 z1, .int .i64 z2, .int .i64 z3] 64))); have HA3P : Hid (Go.Bk.Own (fun _ => False) (w3.alloc (.cells #[.int .i64 z0, .int .i64 z1, .int .i64 z2, .int .i64 z3] 64)) (g + 1) 64 (.slice pa k pc) (keptTo s k)) := HA3.out.pages; have hlt3 := hk3.out.lt; have hlb3 := hk3.box.lt; have HGS := HA3.out.out.lt; clear hb3 hk3)
      | (at_builtin; (with_reducible refine wp_appd4 rfl rfl rfl rfl rfl (by first | rfl | simp) HA3P.out (HCL.out _) (fun _ h => h.elim) (by rw [HLEN.out.1]; omega) (Nat.succ_le_of_lt HGS) fun v4' w4 hown4 hg4 hst4 => ?_); (obtain ⟨pa4, pc4, rfl⟩ := HFP.out _ _ _ hown4); have hbx4 := HA3.out.boxP hg4; have g0 := hbx4.cell0; have fr0 := hbx4.frozen 0; have g1 := HB1C.out w4 hbx4; have HB4 := Lib.hid (HA3.out.pushP hown4 hg4 hst4); have HB4U := Lib.hid HB4.out.uses; have HGT := HB4.out.out.lt; clear hown4 hg4 hst4 hbx4)
      | (at_builtin; (at_builtin; with_reducible refine Try.wp_appd23 rfl rfl rfl rfl rfl (by first | rfl | simp) (HB4U.out) (int_cells hic _ _) (fun _ h => h.elim) (by (rw [HLEN.out.2]; omega)) (by exact Nat.succ_le_of_lt HGT) fun v' w' hown' hg' hst' => ?_); (obtain ⟨ua5, uc5, rfl⟩ := HFU.out _ _ _ hown'); have hbx5 := HB4.out.boxU hg'; have g2 := hbx5.cell0; have g3 := HB1D.out _ _ hbx5; have fr1 := hbx5.frozen 1; have HB5 := Lib.hid (HB4.out.pushU hown' hg' hst'); clear hown' hg' hst' hbx5))
    go_roundw
    case rel => exact ⟨k + 1, by omega, by go_num, _, _, by rw [HE.out, HKS.out.2]; exact HB5.out⟩
    case measure => simp [intOf]; omega
end Go.Proofs.Ytjlnaiiajlahgaa.pag
