/- Uses of lines, walked. -/
import Derived.Test.YtimlhjjdaggiiaaLineC
import Derived.Test.YtimlhjjdaggiiaaRows2
import Derived.Test.YtimlhjjdaggiiaaMake
import Derived.Test.YtimlhjjdaggiiaaApp
set_option linter.unusedVariables false
set_option linter.unusedSimpArgs false
namespace Go.Proofs.Ytimlhjjdaggiiaa.line
open Go.Bk Go.RowKit

/-- No row lies in block b. -/
def Off (vs : List Value) (b : Nat) : Prop := ∀ (j : Nat) (v : Value), vs[j]? = some v → v.ownBlock ≠ some b
theorem Off.grow {w : World} {vs : List Value} {b r : Nat} {v v' : Value} (h : Off vs b) (hv : vs[r]? = some v) (hst : Stay w v v') (hb : b < w.heap.size) : Off (vs.set r v') b := fun j u hu => by
  by_cases hj : r = j
  · subst hj
    rw [List.getElem?_set_self (List.getElem?_eq_some_iff.1 hv).1] at hu
    cases hu
    intro e
    rcases hst b e with h1 | h1
    · exact h r v hv h1
    · omega
  · rw [List.getElem?_set_ne hj] at hu
    exact h j u hu
theorem Off.of_rows {α : Type} [Rep α] {w : World} {B g : Nat} {eS e : TypeId} {vs : List Value} {ls : List (List α)} (h : OwnRows w B g eS e vs ls) {b : Nat} (hb : b < B ∨ w.heap.size ≤ b) : Off vs b := fun j v hv he => by
  obtain ⟨l, hl⟩ : ∃ l, ls[j]? = some l := ⟨_, List.getElem?_eq_getElem (by rw [← h.len]; exact (List.getElem?_eq_some_iff.1 hv).1)⟩
  have := (h.own j v l hv hl).lt b he
  omega
theorem blk_off {w w' : World} {b g r : Nat} {e : TypeId} {cs : List Value} {v v' : Value} (h : Blk w b e cs) (hg : w.grownBy w' v.ownBlock) (ho : v.ownBlock ≠ some b) (hne : b ≠ g) : Blk (w'.setCell ⟨g, r, none⟩ v') b e cs := by
  refine (h.keep (hg.block b h.lt (fun e => ho e.symm))).keep ?_
  simp only [World.setCell]
  rw [Array.getElem?_modify, if_neg (fun e => hne e.symm)]

theorem rows_kept {α : Type} [Rep α] {w w' : World} {B g r : Nat} {eS e : TypeId} {vs : List Value} {ls : List (List α)} (h : OwnRows w B g eS e vs ls) (hg : w.grownBy w' (some r)) (hr : r < B) : OwnRows w' B g eS e vs ls :=
  ⟨h.blk.keep (hg.block g h.blk.lt (fun e => by injection e with e; have := h.base; omega)), h.base, h.len, fun j v l hv hl => (h.own j v l hv hl).keep hg (by
    cases hu : v.ownBlock with
    | none => exact .inl rfl
    | some k => right; intro e; injection e with e; subst e; have := (h.own j v l hv hl).lt k hu; omega) (fun _ h => h.elim), h.apart, h.off⟩
theorem rows_below {α : Type} [Rep α] {w w' w0 : World} {B B0 g r : Nat} {eS e : TypeId} {vs : List Value} {ls : List (List α)} (h : OwnRows w B g eS e vs ls) (hb : Below B0 w0 w) (hB : B0 ≤ B) {v v' : Value} {l : List α} (hv : vs[r]? = some v) (hl : ls[r]? = some l) (hg : w.grownBy w' v.ownBlock) : Below B0 w0 (w'.setCell ⟨g, r, none⟩ v') :=
  (hb.grown hg (Nat.le_trans hB (Nat.le_trans h.base (Nat.le_of_lt h.blk.lt))) (fun k hk => Nat.le_trans hB ((h.own r v l hv hl).lt k hk).1)).setCell (p := ⟨g, r, none⟩) (Nat.le_trans hB h.base) v'
theorem imap_off {P : Program} {K E : TypeId} {w w' : World} {b g r n : Nat} {f : Int → Option Int} {v v' : Value} (h : IMap P K E w b n f) (hg : w.grownBy w' v.ownBlock) (ho : v.ownBlock ≠ some b) (hne : b ≠ g) : IMap P K E (w'.setCell ⟨g, r, none⟩ v') b n f := by
  refine (h.block (hg.block b h.lt (fun e => ho e.symm))).block ?_
  simp only [World.setCell]
  rw [Array.getElem?_modify, if_neg (fun e => hne e.symm)]
theorem below_grown {w w' w0 : World} {B r : Nat} (hb : Below B w0 w) (hg : w.grownBy w' (some r)) (hr : B ≤ r) (hB : B ≤ w.heap.size) : Below B w0 w' :=
  hb.grown hg hB (fun k hk => by injection hk with hk; omega)

theorem _root_.Go.Bk.OwnRows.arrAt {α : Type} [Rep α] {w w0 : World} {B g : Nat} {eS e : TypeId} {vs : List Value} {ls : List (List α)} (h : OwnRows w B g eS e vs ls) (hB : w0.heap.size ≤ B) (hl : ls.length ≤ maxLen) : Arr (Fresh w0 w) w (some ⟨g, 0, none⟩) ls := by
  refine ⟨hl, .inr ⟨g, 0, rfl, ⟨Nat.le_trans hB h.base, h.blk.lt⟩, fun k l hk => ?_⟩⟩
  obtain ⟨v, hv, hown, hcell, -⟩ := h.at hk
  obtain ⟨a, cap, rfl, hc, hn, ha⟩ := hown.arr
  refine ⟨[.slice a l.length cap], ⟨a, cap, rfl, hc, hn, ha.mono (fun b h => ⟨Nat.le_trans hB (h.elim False.elim (·.1)), h.elim False.elim (·.2)⟩)⟩, fun j hj => ?_⟩
  have hj0 : j = 0 := by have : j < 1 := hj; omega
  subst hj0
  show w.cell? ⟨g, 0 + k * 1 + 0, none⟩ = some _
  rw [show 0 + k * 1 + 0 = k by omega]
  exact hcell

def lastOf (l : List Api.DLet) (k : Nat) (n : Int) : Option Int := (lastBelow l n k).map Int.ofNat
def partOf (l : List Api.DLet) (k : Nat) (x : Api.DLet) (j : Nat) : List Int := ([x.A, x.B].take j).flatMap (readBy l k x)
def usesOf (l : List Api.DLet) (k : Nat) : List Int := match l[k]? with | some x => partOf l k x 2 | none => []
def rowsTo (l : List Api.DLet) (k : Nat) : List (List Int) := (List.range l.length).map fun j => if j < k then usesOf l j else []
def depsOf (l : List Api.DLet) : List Api.DDep := (List.range l.length).map fun j => { Uses := usesOf l j }
theorem lastOf_succ {l : List Api.DLet} {k : Nat} {x : Api.DLet} (h : l[k]? = some x) (n : Int) : (if n = x.To then some (k : Int) else lastOf l k n) = lastOf l (k + 1) n := by
  unfold lastOf
  by_cases hn : n = x.To
  · rw [if_pos hn, lastBelow_hit h hn.symm]; rfl
  · rw [if_neg hn, lastBelow_miss h (fun e => hn e.symm)]
theorem part_succ {l : List Api.DLet} {k : Nat} {x : Api.DLet} {j : Nat} {y : Int} (h : [x.A, x.B][j]? = some y) : partOf l k x (j + 1) = partOf l k x j ++ readBy l k x y := by
  unfold partOf
  rw [List.take_add_one, h, List.flatMap_append]; simp
theorem read_none {l : List Api.DLet} {k : Nat} {x : Api.DLet} {y : Int} (h : lastBelow l y k = none) : readBy l k x y = [] := by unfold readBy; rw [h]; simp
theorem read_op {l : List Api.DLet} {k : Nat} {x : Api.DLet} {y : Int} (h : ¬ x.Op < 3) : readBy l k x y = [] := by unfold readBy; rw [if_neg h]
theorem read_some {l : List Api.DLet} {k : Nat} {x : Api.DLet} {y : Int} {i : Nat} (h : lastBelow l y k = some i) (ho : x.Op < 3) : readBy l k x y = [(i : Int)] := by unfold readBy; rw [h, if_pos ho]; rfl
theorem part_len (l : List Api.DLet) (k : Nat) (x : Api.DLet) (j : Nat) : (partOf l k x j).length ≤ j := by
  have h1 : ∀ ns : List Int, (ns.flatMap (readBy l k x)).length ≤ ns.length := by
    intro ns
    induction ns with
    | nil => simp
    | cons n ns ih =>
      rw [List.flatMap_cons, List.length_append, List.length_cons]
      have : (readBy l k x n).length ≤ 1 := by unfold readBy; split <;> cases lastBelow l n k <;> simp
      omega
  have := h1 ([x.A, x.B].take j)
  unfold partOf
  have h2 : ([x.A, x.B].take j).length ≤ j := List.length_take_le _ _
  omega
theorem rows_get {l : List Api.DLet} {k : Nat} (h : k < l.length) : (rowsTo l k)[k]? = some [] := by unfold rowsTo; rw [List.getElem?_map, List.getElem?_range h]; simp
theorem rows_start {l : List Api.DLet} {k : Nat} {x : Api.DLet} (h : l[k]? = some x) : (rowsTo l k).set k (partOf l k x 0) = rowsTo l k := by
  have hk := (List.getElem?_eq_some_iff.1 h).1
  refine List.ext_getElem? fun i => ?_
  by_cases hi : k = i
  · subst hi; rw [List.getElem?_set_self (by simpa [rowsTo] using hk), rows_get hk]; rfl
  · rw [List.getElem?_set_ne hi]
theorem rows_next {l : List Api.DLet} {k : Nat} {x : Api.DLet} (h : l[k]? = some x) : (rowsTo l k).set k (partOf l k x 2) = rowsTo l (k + 1) := by
  have hk := (List.getElem?_eq_some_iff.1 h).1
  refine List.ext_getElem? fun i => ?_
  by_cases hi : k = i
  · subst hi
    rw [List.getElem?_set_self (by simpa [rowsTo] using hk)]
    unfold rowsTo
    rw [List.getElem?_map, List.getElem?_range hk]
    simp [usesOf, h]
  · rw [List.getElem?_set_ne hi]
    unfold rowsTo
    by_cases hil : i < l.length
    · rw [List.getElem?_map, List.getElem?_map, List.getElem?_range hil]
      simp only [Option.map_some]
      congr 1
      by_cases h1 : i < k
      · rw [if_pos h1, if_pos (by omega)]
      · rw [if_neg h1, if_neg (by omega)]
    · rw [List.getElem?_eq_none (by simp; omega), List.getElem?_eq_none (by simp; omega)]
theorem rows_zero (l : List Api.DLet) : rowsTo l 0 = List.replicate l.length [] := by
  unfold rowsTo
  refine List.ext_getElem? fun i => ?_
  rw [List.getElem?_map, List.getElem?_replicate]
  by_cases hi : i < l.length
  · rw [List.getElem?_range hi, if_pos hi]; simp
  · rw [List.getElem?_eq_none (by simp; omega), if_neg hi]; rfl
theorem rows_len (l : List Api.DLet) (k : Nat) : (rowsTo l k).length = l.length := by simp [rowsTo]
theorem deps_arr {S : Nat → Prop} {w : World} {a : Option Addr} {l : List Api.DLet} (h : Arr S w a (rowsTo l l.length)) : Arr S w a (depsOf l) := by
  refine ⟨by have := h.small; simpa [rowsTo, depsOf] using this, ?_⟩
  rcases h.lies with h0 | ⟨b, off, rfl, hb, hx⟩
  · left
    have : l.length = 0 := by rw [← rows_len l l.length, h0]; rfl
    unfold depsOf; rw [this]; rfl
  · refine .inr ⟨b, off, rfl, hb, fun k x hk => ?_⟩
    have hkl : k < l.length := by have := (List.getElem?_eq_some_iff.1 hk).1; simpa [depsOf] using this
    have hr : (rowsTo l l.length)[k]? = some x.Uses := by
      unfold depsOf at hk
      unfold rowsTo
      rw [List.getElem?_map, List.getElem?_range hkl] at *
      simp at hk
      subst hk
      simp [hkl]
    exact hx k x.Uses hr
theorem deps_len (l : List Api.DLet) : (depsOf l).length = l.length := by simp [depsOf]

def usesRel (w : World) (l : List Api.DLet) (m : Nat) (v : Value) (w' : World) : Prop :=
  ∃ (k : Nat) (vs : List Value), k ≤ m ∧ v = .int .i64 k ∧ Vars w' w.heap.size k (lastOf l k) ∧ OwnRows w' (w.heap.size + 1) (w.heap.size + 1) 176 3 vs (rowsTo l k) ∧ Below w.heap.size w w'
def usesIn (w : World) (l : List Api.DLet) (k gx : Nat) (x : Api.DLet) (v : Value) (w' : World) : Prop :=
  ∃ (j : Nat) (vs : List Value), j ≤ 2 ∧ v = .int .i64 j ∧ Vars w' w.heap.size k (lastOf l k) ∧ OwnRows w' (w.heap.size + 1) (w.heap.size + 1) 176 3 vs ((rowsTo l k).set k (partOf l k x j)) ∧ Below w.heap.size w w' ∧
    Blk w' gx 112 [.int .i64 x.To, .int .i64 x.Op, .int .i64 x.A, .int .i64 x.B] ∧ Blk w' (gx + 1) 3 [.int .i64 x.A, .int .i64 x.B] ∧ Off vs gx ∧ Off vs (gx + 1)

set_option maxRecDepth 100000 in
set_option maxHeartbeats 1000000 in
theorem uses_any {S : Nat → Prop} {w : World} {a : Option Addr} {c : Nat} {l : List Api.DLet} (h : Arr S w a l) (hS : ∀ b, S b → b < w.heap.size) (hlen : l.length ≤ 200) :
    Calls Try.prog 120 #[.slice a l.length c] w (RetL w (depsOf l)) := by
  obtain ⟨m, hm⟩ : ∃ n, n = l.length := ⟨_, rfl⟩
  rw [← hm] at hlen; rw [← hm]
  have HM := Lib.hid hm
  clear hm
  go_enter Try.func120, Try.ntmps120
  have hmm := @run_makeMap Try.prog
  go_wp2_with (with_reducible refine wp_make1 (n := m) rfl rfl Try.underlying91 Try.info176 rfl rfl rfl (by omega) (by unfold maxLen; omega) fun w1 hblk hbel hsz => ?_)
  clear hmm
  have HK : Hid (OwnRows w1 (w.heap.size + 1) (w.heap.size + 1) 176 3 (List.replicate m (.slice none 0 0)) (rowsTo l 0)) := by
    show OwnRows _ _ _ _ _ _ _
    rw [rows_zero, ← HM.out]
    exact OwnRows.made (by simpa using hblk) (Nat.le_refl _)
  have HB : Hid (Below w.heap.size w w1) := ((Below.refl _ _).alloc (Nat.le_refl _) _).trans (hbel.mono (by simp))
  have HV : Hid (Vars w1 w.heap.size 0 (lastOf l 0)) := IMap.below (IMap.made _ _ _ _) hbel
  clear hblk hbel
  go_loopw [17] (usesRel w l m) (fun i _ => m - (intOf i).toNat)
  case atStart => exact ⟨0, _, Nat.zero_le _, rfl, HV.out, HK.out, HB.out⟩
  case round =>
    obtain ⟨k, vs, hk, rfl, hv, hrows, hb⟩ := hrel
    have HV1 := Lib.hid hv; have HR := Lib.hid hrows; have HB1 := Lib.hid hb
    have hbs := hb.size
    have hgs := hrows.blk.lt
    have h' := h.keep (w' := wr) (fun b hb' => hb.block b (hS b hb'))
    clear hv hrows hb HK HB HV
    by_cases hlt : k < m
    · obtain ⟨x, hx⟩ : ∃ x, l[k]? = some x := ⟨_, List.getElem?_eq_getElem (by have := HM.out; omega)⟩
      obtain ⟨b, off, rfl, hSb, q1, q2, q3, q4, g1, g2, g3, g4⟩ := api_DLet_elem h' hx
      have HX := Lib.hid hx
      clear h' hx h
      obtain ⟨wo, rfl⟩ : ∃ wo : World, wo = wr := ⟨_, rfl⟩
      go_wp2_with fail
      refine cut_wp (fun wz => Below wo.heap.size wo wz ∧ Blk wz wo.heap.size 112 [.int .i64 x.To, .int .i64 x.Op, .int .i64 x.A, .int .i64 x.B] ∧ Blk wz (wo.heap.size + 1) 3 [.int .i64 x.A, .int .i64 x.B]) ?_ ?_
      · refine ⟨((Below.refl _ _).alloc (Nat.le_refl _) _).alloc (by simp) _, (blk_new _ _ _).keep (Below.heap_alloc _ _ _ (by simp)), blk_new' (by simp)⟩
      rintro wz ⟨hbz, hx1, hx2⟩
      have HVZ : Hid (Vars wz w.heap.size k (lastOf l k)) := IMap.below HV1.out hbz
      have HRZ := Lib.hid (HR.out.below hbz)
      have HBZ : Hid (Below w.heap.size w wz) := HB1.out.trans (hbz.mono hbs)
      have HX1 := Lib.hid hx1; have HX2 := Lib.hid hx2
      have HO1 : Hid (Off vs wo.heap.size) := Off.of_rows HR.out (.inr (Nat.le_refl _))
      have HO2 : Hid (Off vs (wo.heap.size + 1)) := Off.of_rows HR.out (.inr (by omega))
      have hgx1 : w.heap.size + 1 < wo.heap.size := HR.out.blk.lt
      generalize hgx : wo.heap.size = gx at *
      clear hbz hx1 hx2 HV1 HR HB1 hgx q1 q2 q3 q4 hbs hgs
      go_loopw [28] (usesIn w l k gx x) (fun j _ => 2 - (intOf j).toNat)
      case atStart => exact ⟨0, _, by omega, rfl, HVZ.out, by rw [rows_start HX.out]; exact HRZ.out, HBZ.out, HX1.out, HX2.out, HO1.out, HO2.out⟩
      case round =>
        obtain ⟨j, vs2, hj, rfl, hv, hrows, hb, hx1, hx2, ho1, ho2⟩ := hrel
        have HV1 := Lib.hid hv; have HR := Lib.hid hrows; have HB1 := Lib.hid hb
        have X1 := Lib.hid hx1; have X2 := Lib.hid hx2; have O1 := Lib.hid ho1; have O2 := Lib.hid ho2
        have hbs := hb.size
        have hgs := hrows.blk.lt
        clear hv hrows hb hx1 hx2 ho1 ho2 HVZ HRZ HBZ HX1 HX2 HO1 HO2
        by_cases hj2 : j < 2
        · have hkl : k < l.length := by have := HM.out; omega
          obtain ⟨y, hy⟩ : ∃ y, [x.A, x.B][j]? = some y := ⟨_, List.getElem?_eq_getElem (by simpa using hj2)⟩
          have hyI : I64 y := by
            have : y = x.A ∨ y = x.B := by simpa using List.mem_of_getElem? hy
            rcases this with rfl | rfl
            · exact g3
            · exact g4
          have c1 : wr.cell? ⟨gx + 1, j, none⟩ = some (.int .i64 y) := X2.out.cell (by have := congrArg (Option.map (Value.int .i64)) hy; rw [← List.getElem?_map] at this; exact this)
          have c2 : wr.cell? ⟨gx, 1, none⟩ = some (.int .i64 x.Op) := X1.out.cell rfl
          have HY := Lib.hid (part_succ (l := l) (k := k) hy)
          clear hy
          cases hlb : lastBelow l y k with
          | none =>
            have HN : Hid (partOf l k x (j + 1) = partOf l k x j) := by show _ = _; rw [HY.out, read_none hlb, List.append_nil]
            have hlf : lastOf l k y = none := by unfold lastOf; rw [hlb]; rfl
            have HLF := Lib.hid hlf
            clear hlb hlf
            go_wp2_with (with_reducible refine wp_imap_getok rfl rfl under_int under_int under_map (zero_int _) rfl HV1.out rfl hyI ?_; rw [HLF.out])
            go_roundw
            case rel => exact ⟨j + 1, vs2, by omega, by go_num, HV1.out, by rw [HN.out]; exact HR.out, HB1.out, X1.out, X2.out, O1.out, O2.out⟩
            case measure => simp [intOf] <;> omega
          | some i =>
            have hlf : lastOf l k y = some (i : Int) := by unfold lastOf; rw [hlb]; rfl
            have hik := lastBelow_lt hlb
            have HLF := Lib.hid hlf
            by_cases ho : x.Op < 3
            · have hdo : decide (x.Op < 3) = true := by simpa using ho
              have HN : Hid (partOf l k x (j + 1) = partOf l k x j ++ [(i : Int)]) := by show _ = _; rw [HY.out, read_some hlb ho]
              have hxl : ((rowsTo l k).set k (partOf l k x j))[k]? = some (partOf l k x j) := List.getElem?_set_self (by rw [rows_len]; exact hkl)
              obtain ⟨v, hvt, hown, hcr, hfr⟩ := HR.out.at hxl
              have hpl := part_len l k x j
              have hgsz : w.heap.size + 1 < wr.heap.size := hgs
              obtain ⟨va, vc, hvv, -, -, -⟩ := hown.arr
              have HVV := Lib.hid hvv
              have hoff : Hid (v.ownBlock ≠ some (w.heap.size + 1)) := HR.out.off k v hvt
              have HO := Lib.hid hown; have HVT := Lib.hid hvt; have HXL := Lib.hid hxl
              have hbase : w.heap.size + 1 ≤ wr.heap.size := by omega
              clear hlb hlf ho hown hvt hxl hvv
              go_wp2_with (first | (with_reducible refine wp_imap_getok rfl rfl under_int under_int under_map (zero_int _) rfl HV1.out rfl hyI ?_; rw [HLF.out]) | ((at_builtin; with_reducible refine Try.wp_appd22 rfl rfl rfl rfl rfl (by first | rfl | simp) (HO.out) (cells_int (by unfold I64; omega)) (fun _ h => h.elim) (by omega) (by exact hbase) fun v' w' hown' hg' hst' => ?_); obtain ⟨va2, vc2, rfl, -, -, -⟩ := hown'.arr; have cR := (cell_grown (o := k) hg' hgsz hoff.out).trans hcr; have fR := (frozen_grown (o := k) hg' hgsz hoff.out).trans hfr; rw [show (partOf l k x j ++ [(i : Int)]).length = (partOf l k x j).length + 1 by simp] at hown' hst'; have HN' := Lib.hid hown'; have HG := Lib.hid hg'; have HST := Lib.hid hst'; clear hown' hg' hst'))
              go_roundw
              case rel =>
                refine ⟨j + 1, _, by omega, by go_num, ?_, ?_, rows_below HR.out HB1.out (by omega) HVT.out HXL.out HG.out, blk_off X1.out HG.out (O1.out k v HVT.out) (by omega), blk_off X2.out HG.out (O2.out k v HVT.out) (by omega), O1.out.grow HVT.out HST.out X1.out.lt, O2.out.grow HVT.out HST.out X2.out.lt⟩
                · exact imap_off HV1.out HG.out (Off.of_rows HR.out (.inl (by omega)) k v HVT.out) (by omega)
                · have := HR.out.grow HVT.out HG.out HN'.out HST.out
                  rw [List.set_set] at this
                  rw [HN.out]
                  exact this
              case measure => simp [intOf] <;> omega
            · have hdo : decide (x.Op < 3) = false := by simpa using ho
              have HN : Hid (partOf l k x (j + 1) = partOf l k x j) := by show _ = _; rw [HY.out, read_op ho, List.append_nil]
              clear hlb hlf ho
              go_wp2_with (with_reducible refine wp_imap_getok rfl rfl under_int under_int under_map (zero_int _) rfl HV1.out rfl hyI ?_; rw [HLF.out])
              go_roundw
              case rel => exact ⟨j + 1, vs2, by omega, by go_num, HV1.out, by rw [HN.out]; exact HR.out, HB1.out, X1.out, X2.out, O1.out, O2.out⟩
              case measure => simp [intOf] <;> omega
        · obtain rfl : j = 2 := by omega
          have c1 : wr.cell? ⟨gx, 0, none⟩ = some (.int .i64 x.To) := X1.out.cell rfl
          go_wp2_with (with_reducible refine wp_imap_put rfl rfl under_int under_int under_map rfl HV1.out (by omega) rfl rfl g1 (by unfold I64; omega) fun w' hm' hg' => ?_)
          go_roundw
          case rel =>
            refine ⟨k + 1, vs2, by omega, by go_num, IMap.congr hm' (fun n => lastOf_succ HX.out n), ?_, below_grown HB1.out hg' (Nat.le_refl _) HB1.out.size⟩
            rw [← rows_next HX.out]
            exact rows_kept HR.out hg' (by omega)
          case measure => simp [intOf] <;> omega
    · obtain rfl : k = m := by omega
      clear h' h
      go_wp2_with fail
      go_ret
      have hA := HR.out.arrAt (w0 := w) (by omega) (by rw [rows_len, ← HM.out]; unfold maxLen; omega)
      rw [HM.out] at hA
      have hx : RetL w (depsOf l) (.returned (.slice (some ⟨w.heap.size + 1, 0, none⟩) (depsOf l).length k)) wr := .mk HB1.out (deps_arr hA) (by rw [deps_len, ← HM.out]; exact Nat.le_refl _) (by simp)
      rw [deps_len, ← HM.out] at hx
      exact hx
end Go.Proofs.Ytimlhjjdaggiiaa.line
