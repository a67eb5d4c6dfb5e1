/- HeatTurns: New, Turn, Taken: walked. -/
import Derived.Test.YtjlnaiiajlahgaaHeatPlain
import Derived.Test.YtjlnaiiajlahgaaMapZ
import Derived.Test.YtjlnaiiajlahgaaCells
import Derived.Deep.DeepCutAuto
import Derived.Deep.RegionHeld3
import Derived.StillTailTactics
set_option linter.unusedVariables false
set_option linter.unusedSimpArgs false
namespace Go.Proofs.Ytjlnaiiajlahgaa.heat
open Go.Bk Go.RowKit Go.Maps

abbrev placeV (a b : Int) : Value := .agg #[.int .i64 a, .int .i64 b]
theorem laidOut : laidOutB Try.prog = true := by kernel_rfl
theorem types_size : (Try.prog.types.size == 0) = false := by kernel_rfl
theorem place_reads (a b : Int) (ha : I64 a) (hb : I64 b) : keyOf Try.prog 89 (placeV a b) = some (.string (keyBytes [.int .i64 a, .int .i64 b])) := by
  have hk : Try.prog.keyType 89 = true := by kernel_rfl
  have hf : (placeV a b).formed Try.prog 89 = true := by
    unfold Value.formed
    rw [Try.underlying89]
    simp
    kernel_rfl
  unfold keyOf
  rw [Try.underlying89]
  simp only [hk, hf, Bool.and_self, if_true]
  obtain ⟨n, hn⟩ : ∃ n, Try.prog.types.size = n + 1 := by
    have := types_size
    cases h : Try.prog.types.size with
    | zero => rw [h] at this; cases this
    | succ n => exact ⟨n, rfl⟩
  rw [hn]
  have h1 : Try.prog.cellsOf 89 = 2 := by kernel_rfl
  have h2 : Try.prog.cellsOf 3 = 1 := by kernel_rfl
  simp [Program.keyLits, Try.underlying89, Try.underlying3, h1, h2, ha.wf, hb.wf, Value.cells]
def placeKey : KeyT Try.prog 89 (Int × Int) where
  val s := placeV s.1 s.2
  lit s := .string (keyBytes [.int .i64 s.1, .int .i64 s.2])
  good s := I64 s.1 ∧ I64 s.2
  keyed := Keyed.of_law (deep_law_gate laidOut (of_decide_eq_true (by kernel_rfl)) (of_decide_eq_true (by kernel_rfl)) (by kernel_rfl) (by kernel_rfl))
  reads s h := place_reads s.1 s.2 h.1 h.2
  inj s s' h := by
    obtain ⟨a, b⟩ := s
    obtain ⟨c, d⟩ := s'
    simp at h
    rw [h.1, h.2]
theorem placeKey_val (a b : Int) : placeV a b = placeKey.val (a, b) := rfl
def hC (x : Api.THead) : List Value := [.int .i64 x.Fn, .int .i64 x.At, .int .i64 x.Count, .int .i64 x.Limit, .int .i64 x.Fails, .int .i64 x.Is]
abbrev hV (x : Api.THead) : Value := .agg (hC x).toArray
theorem hV_eq (x : Api.THead) : Value.agg #[.int .i64 x.Fn, .int .i64 x.At, .int .i64 x.Count, .int .i64 x.Limit, .int .i64 x.Fails, .int .i64 x.Is] = hV x := rfl
def zeroH : Api.THead := ⟨0, 0, 0, 0, 0, 0⟩
theorem zero_head (w : World) : (zeroValue 60).run Try.prog w = .ok (hV zeroH) w := by kernel_rfl
def mapF (l : List Api.THead) (p : Int × Int) : Option Value := (cur l p.1 p.2).map hV
/-- The program's own: a box with its bound and its map. -/
structure HeatAt (w : World) (B gH gm n : Nat) (hot : Int) (l : List Api.THead) : Prop where
  box : Blk w gH 87 [.int .i64 hot, .map (some gm)]
  map : ZMap placeKey w gm n l.length (mapF l)
  ne : gH ≠ gm
  low : B ≤ gH ∧ B ≤ gm
  inv : Inv l
theorem HeatAt.below {w w' : World} {B gH gm n : Nat} {hot : Int} {l : List Api.THead} (h : HeatAt w B gH gm n hot l) (hb : Below w.heap.size w w') : HeatAt w' B gH gm n hot l :=
  ⟨h.box.below hb h.box.lt, h.map.below hb, h.ne, h.low, h.inv⟩
theorem mapF_put (x : Api.THead) (l : List Api.THead) (p : Int × Int) : mapF (put x l) p = if p = (x.Fn, x.At) then some (hV x) else mapF l p := by
  unfold mapF
  rw [cur_put]
  by_cases h : x.Fn = p.1 ∧ x.At = p.2
  · rw [if_pos h, if_pos (Prod.ext h.1.symm h.2.symm)]; rfl
  · rw [if_neg h, if_neg (fun e => h ⟨by rw [e], by rw [e]⟩)]
/-- Behind the store of a head. -/
theorem HeatAt.laid {w w' : World} {B gH gm n : Nat} {hot : Int} {l : List Api.THead} (h : HeatAt w B gH gm n hot l) {x : Api.THead} (hx : Good x) (hl : (cur l x.Fn x.At).isSome = true ∨ l.length < 100)
    (hm : ZMap placeKey w' gm (n + 1) (if (mapF l (x.Fn, x.At)).isSome then l.length else l.length + 1) (fun k => if k = (x.Fn, x.At) then some (hV x) else mapF l k)) (hg : w.grownBy w' (some gm)) : HeatAt w' B gH gm (n + 1) hot (put x l) := by
  refine ⟨h.box.keep (hg.block gH h.box.lt (fun e => h.ne (Option.some.inj e))), ?_, h.ne, h.low, h.inv.put hx hl⟩
  have e1 : (if (mapF l (x.Fn, x.At)).isSome then l.length else l.length + 1) = (put x l).length := by
    rw [put_len h.inv.srt]
    unfold mapF
    rw [Option.isSome_map]
  rw [← e1]
  exact hm.congr fun p => (mapF_put x l p).symm
theorem inv_nil : Inv [] := ⟨List.Pairwise.nil, fun x hx => absurd hx (by simp), Nat.zero_le _⟩
def NewPost (w : World) (hot : Int) (e : Ending) (w' : World) : Prop :=
  ((hot < 1 ∨ 1000 < hot) ∧ e = .returned (.tuple #[.pointer none, .int .i64 1]) ∧ w = w') ∨
    (1 ≤ hot ∧ hot ≤ 1000 ∧ ∃ gH gm, e = .returned (.tuple #[.pointer (some ⟨gH, 0, none⟩), .int .i64 0]) ∧ HeatAt w' w.heap.size gH gm 0 hot [] ∧ Below w.heap.size w w')
set_option maxRecDepth 100000 in
theorem new_any (w : World) (hot : Int) : Calls Try.prog 22 #[.int .i64 hot] w (NewPost w hot) := by
  by_cases h1 : hot < 1
  · have d1 : decide (hot < 1) = true := decide_eq_true h1
    have H1 := Lib.hid h1
    clear h1
    go_enter Try.func22, Try.ntmps22
    go_wp2
    go_ret2
    exact .inl ⟨.inl H1.out, rfl, rfl⟩
  · have d1 : decide (hot < 1) = false := decide_eq_false h1
    by_cases h2 : 1000 < hot
    · have d2 : decide (1000 < hot) = true := decide_eq_true h2
      have H2 := Lib.hid h2
      clear h2
      go_enter Try.func22, Try.ntmps22
      go_wp2
      go_ret2
      exact .inl ⟨.inr H2.out, rfl, rfl⟩
    · have d2 : decide (1000 < hot) = false := decide_eq_false h2
      have H12 : Hid (1 ≤ hot ∧ hot ≤ 1000) := ⟨by omega, by omega⟩
      clear h1 h2
      have hmm := @run_makeMap Try.prog
      have HM : Hid (ZMap placeKey ((w.alloc (.map #[] 0)).alloc (.cells #[.int .i64 hot, .map (some w.heap.size)] 87)) w.heap.size 0 0 (mapF [])) := ((ZMap.made placeKey w).boxed _).congr fun p => rfl
      have HX : Hid (Blk ((w.alloc (.map #[] 0)).alloc (.cells #[.int .i64 hot, .map (some w.heap.size)] 87)) (w.heap.size + 1) 87 [.int .i64 hot, .map (some w.heap.size)]) := by
        have := blk_new (w.alloc (.map #[] 0)) [.int .i64 hot, .map (some w.heap.size)] 87
        rwa [show (w.alloc (.map #[] 0)).heap.size = w.heap.size + 1 by simp] at this
      go_enter Try.func22, Try.ntmps22
      go_wp2
      clear hmm
      go_ret2
      exact .inr ⟨H12.out.1, H12.out.2, _, _, rfl, ⟨HX.out, HM.out, by omega, ⟨by omega, by omega⟩, inv_nil⟩, ((Below.refl _ _).alloc (Nat.le_refl _) _).alloc (by simp) _⟩
/-- Only the map's own block was turned of what there was. -/
def TurnPost (w : World) (B gH gm n : Nat) (hot : Int) (r : List Api.THead × Int) (e : Ending) (w' : World) : Prop :=
  e = .returned (.tuple #[.int .i64 (if r.2 < 0 then 0 else r.2), .int .i64 (if r.2 < 0 then -r.2 else 0)]) ∧ HeatAt w' B gH gm (n + 1) hot r.1 ∧ w.grownBy w' (some gm)
theorem TurnPost.of {w W W' : World} {B gH gm n : Nat} {hot t : Int} {l : List Api.THead} {x y : Api.THead} {fn at' : Int} (hT : turnL hot l fn at' = (put (bump x).1 l, (bump x).2)) (hb : bump x = (y, t)) (ht : 0 ≤ t) (hf : HeatAt W' B gH gm (n + 1) hot (put y l))
    (hB : Below (w.heap.size + 1) (w.alloc (.cells #[.int .i64 fn, .int .i64 at'] 89)) W) (hg : W.drew.grownBy W' (some gm)) : TurnPost w B gH gm n hot (turnL hot l fn at') (.returned (.tuple #[.int .i64 t, .int .i64 0])) W' := by
  rw [hT, hb]
  refine ⟨?_, hf, ?_⟩
  · dsimp only
    rw [if_neg (by omega), if_neg (by omega)]
  · have h1 : Below w.heap.size w W := ((Below.refl _ _).alloc (Nat.le_refl _) _).trans (hB.mono (by simp))
    exact (grownBy_of h1.drew (Nat.le_refl _) (some gm)).andThen hg (fun j hj => .inr hj)
set_option maxRecDepth 100000 in
set_option maxHeartbeats 4000000 in
theorem turn_any {w : World} {B gH gm n : Nat} {hot fn at' : Int} {l : List Api.THead} (h : HeatAt w B gH gm n hot l) (h1 : 1 ≤ hot) (h2 : hot ≤ 1000) (hn : n < 1000000000) (hf : I64 fn) (ha : I64 at') :
    Calls Try.prog 25 #[.pointer (some ⟨gH, 0, none⟩), .int .i64 fn, .int .i64 at'] w (TurnPost w B gH gm n hot (turnL hot l fn at')) := by
  have HH := Lib.hid h
  have b0 := h.box.cell (j := 0) rfl
  have b1 := h.box.cell (j := 1) rfl
  have hbl := h.box.lt
  clear h
  have hcase : (decide (fn < 0) = true ∧ turnL hot l fn at' = (l, -1)) ∨ (decide (fn < 0) = false ∧ decide (60 ≤ fn) = true ∧ turnL hot l fn at' = (l, -1)) ∨ (decide (fn < 0) = false ∧ decide (60 ≤ fn) = false ∧ decide (at' < 0) = true ∧ turnL hot l fn at' = (l, -1)) ∨
      (decide (fn < 0) = false ∧ decide (60 ≤ fn) = false ∧ decide (at' < 0) = false ∧ decide (600 ≤ at') = true ∧ turnL hot l fn at' = (l, -1)) ∨ (decide (fn < 0) = false ∧ decide (60 ≤ fn) = false ∧ decide (at' < 0) = false ∧ decide (600 ≤ at') = false ∧ 0 ≤ fn ∧ fn < 60 ∧ 0 ≤ at' ∧ at' < 600) := by
    unfold turnL
    simp only [decide_eq_true_eq, decide_eq_false_iff_not]
    by_cases c1 : fn < 0
    · left; exact ⟨c1, if_pos (.inl c1)⟩
    · by_cases c2 : 60 ≤ fn
      · right; left; exact ⟨c1, c2, if_pos (.inr (.inl c2))⟩
      · by_cases c3 : at' < 0
        · right; right; left; exact ⟨c1, c2, c3, if_pos (.inr (.inr (.inl c3)))⟩
        · by_cases c4 : 600 ≤ at'
          · right; right; right; left; exact ⟨c1, c2, c3, c4, if_pos (.inr (.inr (.inr c4)))⟩
          · right; right; right; right; exact ⟨c1, c2, c3, c4, by omega, by omega, by omega, by omega⟩
  have HL : ∀ w' : World, w.grownBy w' (some gm) → HeatAt w B gH gm n hot l → w'.heap[gm]? = w.heap[gm]? → HeatAt w' B gH gm (n + 1) hot l := fun w' hg hh he =>
    ⟨hh.box.keep (hg.block gH hh.box.lt (fun e => hh.ne (Option.some.inj e))), by
      obtain ⟨D, q1, q2⟩ := hh.map.block he
      exact ⟨D, q1.mono (Nat.le_succ n), q2⟩, hh.ne, hh.low, hh.inv⟩
  rcases hcase with ⟨d1, ho⟩ | ⟨d1, d2, ho⟩ | ⟨d1, d2, d3, ho⟩ | ⟨d1, d2, d3, d4, ho⟩ | ⟨d1, d2, d3, d4, k1, k2, k3, k4⟩
  case inr.inr.inr.inr =>
    have HLH := Lib.hid HL
    clear HL
    have hg0 : I64 fn ∧ I64 at' := ⟨hf, ha⟩
    have HG0 : Hid (placeKey.good (fn, at')) := hg0
    have HB1 : Hid (Below w.heap.size w (w.alloc (.cells #[.int .i64 fn, .int .i64 at'] 89))) := (Below.refl _ _).alloc (Nat.le_refl _) _
    have HS1 : Hid (∀ w', Below (w.heap.size + 1) (w.alloc (.cells #[.int .i64 fn, .int .i64 at'] 89)) w' → HeatAt w' B gH gm n hot l ∧ Blk w' w.heap.size 89 [.int .i64 fn, .int .i64 at']) := by
      intro w' hb
      have e1 : (w.alloc (.cells #[.int .i64 fn, .int .i64 at'] 89)).heap.size = w.heap.size + 1 := by simp
      exact ⟨(HH.out.below HB1.out).below (by rw [e1]; exact hb), (blk_new w [.int .i64 fn, .int .i64 at'] 89).keep (hb.block _ (by omega))⟩
    cases hc : cur l fn at' with
    | none =>
      have HS : Hid (∀ w', Below (w.heap.size + 1) (w.alloc (.cells #[.int .i64 fn, .int .i64 at'] 89)) w' → (w'.cell? ⟨gH, 1, none⟩ = some (.map (some gm)) ∧ w'.cell? ⟨w.heap.size, 0, none⟩ = some (.int .i64 fn) ∧ w'.cell? ⟨w.heap.size, 1, none⟩ = some (.int .i64 at') ∧
          (Instr.lookup 85 (.map (some gm)) (.agg #[.int .i64 fn, .int .i64 at']) true).run Try.prog w' = .ok (.tuple #[.agg #[.int .i64 0, .int .i64 0, .int .i64 0, .int .i64 0, .int .i64 0, .int .i64 0], .bool false]) w')) := by
        intro w' hb
        obtain ⟨k1, k2⟩ := HS1.out w' hb
        refine ⟨k1.box.cell (j := 1) rfl, k2.cell (j := 0) rfl, k2.cell (j := 1) rfl, ?_⟩
        have := k1.map.gmap.look true Try.underlying85 (zero_head w') (k := (fn, at')) hg0
        rw [show mapF l (fn, at') = none by unfold mapF; dsimp only; rw [hc]; rfl] at this
        exact this
      have HX := Lib.hid hc
      clear hc
      go_enter Try.func25, Try.ntmps25
      go_upto_region 4 with fail
      go_cut [9, 10] (fun s9 s10 wz => ∃ g9 : Nat, s9 = .pointer (some ⟨g9, 0, none⟩) ∧ s10 = .bool false ∧ Blk wz g9 60 (hC zeroH) ∧ w.heap.size < g9 ∧ Below (w.heap.size + 1) (w.alloc (.cells #[.int .i64 fn, .int .i64 at'] 89)) wz)
      case first =>
        go_region_held3 (fun w' => (w'.cell? ⟨gH, 1, none⟩ = some (.map (some gm)) ∧ w'.cell? ⟨w.heap.size, 0, none⟩ = some (.int .i64 fn) ∧ w'.cell? ⟨w.heap.size, 1, none⟩ = some (.int .i64 at') ∧
          (Instr.lookup 85 (.map (some gm)) (.agg #[.int .i64 fn, .int .i64 at']) true).run Try.prog w' = .ok (.tuple #[.agg #[.int .i64 0, .int .i64 0, .int .i64 0, .int .i64 0, .int .i64 0, .int .i64 0], .bool false]) w'))
          (exact HS.out _ (by repeat (first | exact Below.refl _ _ | refine Below.alloc ?_ (by simp) _ | refine Below.setCell (p := ⟨_, _, none⟩) ?_ (by simp) _ | refine Below.drew ?_)))
          (fail)
        all_goals go_wp2_with fail
        all_goals go_meet
        all_goals
          refine ⟨w.heap.size + 1, rfl, rfl, ?_, by omega, Below.drew ((Below.refl _ _).alloc (by first | omega | simp) _)⟩
          have := blk_new (w.alloc (.cells #[.int .i64 fn, .int .i64 at'] 89)) (hC zeroH) 60
          rw [show (w.alloc (.cells #[.int .i64 fn, .int .i64 at'] 89)).heap.size = w.heap.size + 1 by simp] at this
          exact this
      case rest =>
        obtain ⟨g9, rfl, rfl, hk9, hg9, hb9⟩ := hcut
        have HK9 := Lib.hid hk9; have HB9 := Lib.hid hb9
        obtain ⟨w3, hw3⟩ : ∃ w3 : World, w3 = wc := ⟨_, rfl⟩
        rw [← hw3] at HK9 HB9 hk9 hb9 ⊢
        obtain ⟨hh3, hp3⟩ := HS1.out w3 hb9
        have HH3 := Lib.hid hh3
        have c0 := hh3.box.cell (j := 0) rfl; have c1 := hh3.box.cell (j := 1) rfl
        have z0 := hk9.cell (j := 0) rfl; have z1 := hk9.cell (j := 1) rfl; have z2 := hk9.cell (j := 2) rfl; have z3 := hk9.cell (j := 3) rfl; have z4 := hk9.cell (j := 4) rfl; have z5 := hk9.cell (j := 5) rfl
        have f0 := hk9.frozen 0; have f1 := hk9.frozen 1; have f2 := hk9.frozen 2; have f3 := hk9.frozen 3; have f4 := hk9.frozen 4; have f5 := hk9.frozen 5
        clear hk9 hb9 hw3 HS b0 b1 hh3 hp3
        have hlen := HH.out.inv.few
        obtain ⟨L, hL⟩ : ∃ L, L = l.length := ⟨_, rfl⟩
        have HM3 : Hid (ZMap placeKey w3 gm n L (mapF l)) := by show ZMap _ _ _ _ _ _; rw [hL]; exact HH3.out.map
        rw [← hL] at hlen
        by_cases h100 : 100 ≤ L
        · have HT : Hid (turnL hot l fn at' = (l, -2)) := by show _ = _; unfold turnL; rw [if_neg (by omega), HX.out]; dsimp only; rw [if_pos (by omega)]
          have d100 : decide ((100 : Int) ≤ (L : Int)) = true := by simp; omega
          clear hL h100
          go_wp2_with (with_reducible refine wp_zmap_len rfl rfl Try.underlying85 rfl HM3.out ?_)
          go_ret2
          rw [HT.out]
          have h1 : Below w.heap.size w w3 := HB1.out.trans (HB9.out.mono (by simp))
          exact ⟨rfl, HLH.out w3 (grownBy_of h1 (Nat.le_refl _) (some gm)) HH.out (h1.block gm HH.out.map.lt), grownBy_of h1 (Nat.le_refl _) (some gm)⟩
        · have d100 : decide ((100 : Int) ≤ (L : Int)) = false := by simp; omega
          go_upto_region 8 with (with_reducible refine wp_zmap_len rfl rfl Try.underlying85 rfl HM3.out ?_)
          go_upto_region 10 with fail
          have HL100 : Hid (l.length < 100) := by show _ < _; omega
          have HT : Hid (turnL hot l fn at' = (put (bump (newH hot fn at')).1 l, (bump (newH hot fn at')).2)) := by show _ = _; unfold turnL; rw [if_neg (by omega), HX.out]; dsimp only; rw [if_neg (by omega)]
          have HGN := Lib.hid (bump_good (new_good h1 h2 (fn := fn) (at' := at') (by omega)))
          have HK6 : Hid (Blk ((((((w3.setCell ⟨g9, 0, none⟩ (.int .i64 fn)).setCell ⟨g9, 1, none⟩ (.int .i64 at')).setCell ⟨g9, 2, none⟩ (.int .i64 0)).setCell ⟨g9, 3, none⟩ (.int .i64 hot)).setCell ⟨g9, 4, none⟩ (.int .i64 0)).setCell ⟨g9, 5, none⟩ (.int .i64 0)) g9 60 (hC (newH hot fn at'))) := (((((HK9.out.set 0 _).set 1 _).set 2 _).set 3 _).set 4 _).set 5 _
          have hge : w.heap.size + 1 ≤ g9 := hg9
          have HB6 : Hid (Below (w.heap.size + 1) (w.alloc (.cells #[.int .i64 fn, .int .i64 at'] 89)) ((((((w3.setCell ⟨g9, 0, none⟩ (.int .i64 fn)).setCell ⟨g9, 1, none⟩ (.int .i64 at')).setCell ⟨g9, 2, none⟩ (.int .i64 0)).setCell ⟨g9, 3, none⟩ (.int .i64 hot)).setCell ⟨g9, 4, none⟩ (.int .i64 0)).setCell ⟨g9, 5, none⟩ (.int .i64 0))) := (((((HB9.out.setCell (p := ⟨g9, 0, none⟩) hge _).setCell (p := ⟨g9, 1, none⟩) hge _).setCell (p := ⟨g9, 2, none⟩) hge _).setCell (p := ⟨g9, 3, none⟩) hge _).setCell (p := ⟨g9, 4, none⟩) hge _).setCell (p := ⟨g9, 5, none⟩) hge _
          clear z0 z1 z2 z3 z4 z5 f0 f1 f2 f3 f4 f5 c0 c1 HM3 hL
          generalize ((((((w3.setCell ⟨g9, 0, none⟩ (.int .i64 fn)).setCell ⟨g9, 1, none⟩ (.int .i64 at')).setCell ⟨g9, 2, none⟩ (.int .i64 0)).setCell ⟨g9, 3, none⟩ (.int .i64 hot)).setCell ⟨g9, 4, none⟩ (.int .i64 0)).setCell ⟨g9, 5, none⟩ (.int .i64 0)) = w6 at *
          have z2 := HK6.out.cell (j := 2) rfl; have z3 := HK6.out.cell (j := 3) rfl; have z5 := HK6.out.cell (j := 5) rfl
          have f2 := HK6.out.frozen 2; have f5 := HK6.out.frozen 5
          dsimp only [newH] at z2 z3 z5
          have HK4 : Hid (Blk (w6.setCell ⟨g9, 2, none⟩ (.int .i64 1)) g9 60 (hC (⟨fn, at', 1, hot, 0, 0⟩ : Api.THead))) := HK6.out.set 2 _
          have HB4 : Hid (Below (w.heap.size + 1) (w.alloc (.cells #[.int .i64 fn, .int .i64 at'] 89)) (w6.setCell ⟨g9, 2, none⟩ (.int .i64 1))) := HB6.out.setCell (p := ⟨g9, 2, none⟩) hge _
          by_cases hlim : hot ≤ 1
          · have dl : decide (hot ≤ 1) = true := decide_eq_true hlim
            have HBU : Hid (bump (newH hot fn at') = ((⟨fn, at', 1, hot, 0, 1⟩ : Api.THead), 1)) := by show _ = _; unfold bump newH; dsimp only; rw [if_pos rfl, if_pos (by omega)]; rfl
            have HG1 : Hid (Good (⟨fn, at', 1, hot, 0, 1⟩ : Api.THead)) := by have := HGN.out; rw [HBU.out] at this; exact this
            have HK5 : Hid (Blk ((w6.setCell ⟨g9, 2, none⟩ (.int .i64 1)).setCell ⟨g9, 5, none⟩ (.int .i64 1)) g9 60 (hC (⟨fn, at', 1, hot, 0, 1⟩ : Api.THead))) := HK4.out.set 5 _
            have HB5 : Hid (Below (w.heap.size + 1) (w.alloc (.cells #[.int .i64 fn, .int .i64 at'] 89)) ((w6.setCell ⟨g9, 2, none⟩ (.int .i64 1)).setCell ⟨g9, 5, none⟩ (.int .i64 1))) := HB4.out.setCell (p := ⟨g9, 5, none⟩) hge _
            clear hlim
            go_upto_region 18 with fail
            clear z2 z3 z5 f2 f5 dl HK4 HB4
            generalize (w6.setCell ⟨g9, 2, none⟩ (.int .i64 1)).setCell ⟨g9, 5, none⟩ (.int .i64 1) = W4 at *
            obtain ⟨hh, hp⟩ := HS1.out W4 HB5.out
            have c1 := hh.box.cell (j := 1) rfl; have p0 := hp.cell (j := 0) rfl; have p1 := hp.cell (j := 1) rfl
            have y0 := HK5.out.cell (j := 0) rfl; have y1 := HK5.out.cell (j := 1) rfl; have y2 := HK5.out.cell (j := 2) rfl; have y3 := HK5.out.cell (j := 3) rfl; have y4 := HK5.out.cell (j := 4) rfl; have y5 := HK5.out.cell (j := 5) rfl
            have HHD := Lib.hid (hh.below (Below.refl _ _).drew)
            clear hh hp
            go_still_tail 6, (by kernel_rfl)
            change wpList _ _ _ _ _ W4.drew
            go_wp2_with (at_mapUpdate; go_loud ((with_reducible refine wp_zmap_put rfl rfl Try.underlying85 rfl HHD.out.map (by omega) (k := (fn, at')) (z := hV (⟨fn, at', 1, hot, 0, 1⟩ : Api.THead)) (Eq.trans (b := placeV fn at') rfl (placeKey_val _ _)) (Eq.trans (b := .agg #[.int .i64 fn, .int .i64 at', .int .i64 1, .int .i64 hot, .int .i64 0, .int .i64 1]) rfl (hV_eq (⟨fn, at', 1, hot, 0, 1⟩ : Api.THead))) HG0.out fun w5 hm' hg' => ?_); have HF := Lib.hid (HHD.out.laid (x := (⟨fn, at', 1, hot, 0, 1⟩ : Api.THead)) HG1.out (.inr HL100.out) hm' hg'); have HG := Lib.hid hg'; clear hm' hg'))
            go_ret2
            exact TurnPost.of HT.out HBU.out (by omega) HF.out HB5.out HG.out
          · have dl : decide (hot ≤ 1) = false := decide_eq_false hlim
            have HBU : Hid (bump (newH hot fn at') = ((⟨fn, at', 1, hot, 0, 0⟩ : Api.THead), 0)) := by show _ = _; unfold bump newH; dsimp only; rw [if_pos rfl, if_neg (by omega)]; rfl
            have HG1 : Hid (Good (⟨fn, at', 1, hot, 0, 0⟩ : Api.THead)) := by have := HGN.out; rw [HBU.out] at this; exact this
            clear hlim
            go_upto_region 18 with fail
            clear z2 z3 z5 f2 f5 dl
            generalize w6.setCell ⟨g9, 2, none⟩ (.int .i64 1) = W4 at *
            obtain ⟨hh, hp⟩ := HS1.out W4 HB4.out
            have c1 := hh.box.cell (j := 1) rfl; have p0 := hp.cell (j := 0) rfl; have p1 := hp.cell (j := 1) rfl
            have y0 := HK4.out.cell (j := 0) rfl; have y1 := HK4.out.cell (j := 1) rfl; have y2 := HK4.out.cell (j := 2) rfl; have y3 := HK4.out.cell (j := 3) rfl; have y4 := HK4.out.cell (j := 4) rfl; have y5 := HK4.out.cell (j := 5) rfl
            have HHD := Lib.hid (hh.below (Below.refl _ _).drew)
            clear hh hp
            go_still_tail 6, (by kernel_rfl)
            change wpList _ _ _ _ _ W4.drew
            go_wp2_with (at_mapUpdate; go_loud ((with_reducible refine wp_zmap_put rfl rfl Try.underlying85 rfl HHD.out.map (by omega) (k := (fn, at')) (z := hV (⟨fn, at', 1, hot, 0, 0⟩ : Api.THead)) (Eq.trans (b := placeV fn at') rfl (placeKey_val _ _)) (Eq.trans (b := .agg #[.int .i64 fn, .int .i64 at', .int .i64 1, .int .i64 hot, .int .i64 0, .int .i64 0]) rfl (hV_eq (⟨fn, at', 1, hot, 0, 0⟩ : Api.THead))) HG0.out fun w5 hm' hg' => ?_); have HF := Lib.hid (HHD.out.laid (x := (⟨fn, at', 1, hot, 0, 0⟩ : Api.THead)) HG1.out (.inr HL100.out) hm' hg'); have HG := Lib.hid hg'; clear hm' hg'))
            go_ret2
            exact TurnPost.of HT.out HBU.out (by omega) HF.out HB4.out HG.out
    | some x =>
      obtain ⟨hgx, rfl, rfl⟩ := cur_good HH.out.inv hc
      have HT : Hid (turnL hot l x.Fn x.At = (put (bump x).1 l, (bump x).2)) := by show _ = _; unfold turnL; rw [if_neg (by omega), hc]
      have HS : Hid (∀ w', Below (w.heap.size + 1) (w.alloc (.cells #[.int .i64 x.Fn, .int .i64 x.At] 89)) w' → (w'.cell? ⟨gH, 1, none⟩ = some (.map (some gm)) ∧ w'.cell? ⟨w.heap.size, 0, none⟩ = some (.int .i64 x.Fn) ∧ w'.cell? ⟨w.heap.size, 1, none⟩ = some (.int .i64 x.At) ∧
          (Instr.lookup 85 (.map (some gm)) (.agg #[.int .i64 x.Fn, .int .i64 x.At]) true).run Try.prog w' = .ok (.tuple #[.agg #[.int .i64 x.Fn, .int .i64 x.At, .int .i64 x.Count, .int .i64 x.Limit, .int .i64 x.Fails, .int .i64 x.Is], .bool true]) w')) := by
        intro w' hb
        obtain ⟨k1, k2⟩ := HS1.out w' hb
        refine ⟨k1.box.cell (j := 1) rfl, k2.cell (j := 0) rfl, k2.cell (j := 1) rfl, ?_⟩
        have := k1.map.gmap.look true Try.underlying85 (zero_head w') (k := (x.Fn, x.At)) hg0
        rw [show mapF l (x.Fn, x.At) = some (hV x) by unfold mapF; dsimp only; rw [hc]; rfl] at this
        exact this
      have HX := Lib.hid hc
      clear hc
      go_enter Try.func25, Try.ntmps25
      go_upto_region 4 with fail
      go_cut [9, 10] (fun s9 s10 wz => ∃ g9 : Nat, s9 = .pointer (some ⟨g9, 0, none⟩) ∧ s10 = .bool true ∧ Blk wz g9 60 (hC x) ∧ w.heap.size < g9 ∧ Below (w.heap.size + 1) (w.alloc (.cells #[.int .i64 x.Fn, .int .i64 x.At] 89)) wz)
      case first =>
        go_region_held3 (fun w' => (w'.cell? ⟨gH, 1, none⟩ = some (.map (some gm)) ∧ w'.cell? ⟨w.heap.size, 0, none⟩ = some (.int .i64 x.Fn) ∧ w'.cell? ⟨w.heap.size, 1, none⟩ = some (.int .i64 x.At) ∧
          (Instr.lookup 85 (.map (some gm)) (.agg #[.int .i64 x.Fn, .int .i64 x.At]) true).run Try.prog w' = .ok (.tuple #[.agg #[.int .i64 x.Fn, .int .i64 x.At, .int .i64 x.Count, .int .i64 x.Limit, .int .i64 x.Fails, .int .i64 x.Is], .bool true]) w'))
          (exact HS.out _ (by repeat (first | exact Below.refl _ _ | refine Below.alloc ?_ (by simp) _ | refine Below.setCell (p := ⟨_, _, none⟩) ?_ (by simp) _ | refine Below.drew ?_)))
          (fail)
        all_goals go_wp2_with fail
        all_goals go_meet
        all_goals
          refine ⟨w.heap.size + 1, rfl, rfl, ?_, by omega, Below.drew ((Below.refl _ _).alloc (by first | omega | simp) _)⟩
          have := blk_new (w.alloc (.cells #[.int .i64 x.Fn, .int .i64 x.At] 89)) (hC x) 60
          rw [show (w.alloc (.cells #[.int .i64 x.Fn, .int .i64 x.At] 89)).heap.size = w.heap.size + 1 by simp] at this
          exact this
      case rest =>
        obtain ⟨g9, rfl, rfl, hk9, hg9, hb9⟩ := hcut
        have HK9 := Lib.hid hk9; have HB9 := Lib.hid hb9
        obtain ⟨w3, hw3⟩ : ∃ w3 : World, w3 = wc := ⟨_, rfl⟩
        rw [← hw3] at HK9 HB9 hk9 hb9 ⊢
        have z2 := hk9.cell (j := 2) rfl; have z3 := hk9.cell (j := 3) rfl; have z5 := hk9.cell (j := 5) rfl
        have f2 := hk9.frozen 2; have f5 := hk9.frozen 5
        clear hk9 hb9 hw3 HS b0 b1
        have HEND : Hid (∀ (W4 : World) (y : Api.THead), Blk W4 g9 60 (hC y) → Below (w.heap.size + 1) (w.alloc (.cells #[.int .i64 x.Fn, .int .i64 x.At] 89)) W4 →
            HeatAt W4.drew B gH gm n hot l ∧ W4.cell? ⟨gH, 1, none⟩ = some (.map (some gm)) ∧ W4.cell? ⟨w.heap.size, 0, none⟩ = some (.int .i64 x.Fn) ∧ W4.cell? ⟨w.heap.size, 1, none⟩ = some (.int .i64 x.At) ∧
            W4.cell? ⟨g9, 0, none⟩ = some (.int .i64 y.Fn) ∧ W4.cell? ⟨g9, 1, none⟩ = some (.int .i64 y.At) ∧ W4.cell? ⟨g9, 2, none⟩ = some (.int .i64 y.Count) ∧ W4.cell? ⟨g9, 3, none⟩ = some (.int .i64 y.Limit) ∧ W4.cell? ⟨g9, 4, none⟩ = some (.int .i64 y.Fails) ∧ W4.cell? ⟨g9, 5, none⟩ = some (.int .i64 y.Is)) := by
          intro W4 y hk hb
          obtain ⟨k1, k2⟩ := HS1.out W4 hb
          exact ⟨k1.below (Below.refl _ _).drew, k1.box.cell (j := 1) rfl, k2.cell (j := 0) rfl, k2.cell (j := 1) rfl, hk.cell (j := 0) rfl, hk.cell (j := 1) rfl, hk.cell (j := 2) rfl, hk.cell (j := 3) rfl, hk.cell (j := 4) rfl, hk.cell (j := 5) rfl⟩
        have HTB := Lib.hid (bump_key x); have HGB := Lib.hid (bump_good hgx)
        by_cases i0 : x.Is = 0
        · have hgx2 := hgx
          unfold Good at hgx2
          have hb1 : 0 ≤ x.Count := by omega
          have hb2 : x.Count ≤ 8000 := by omega
          have hb3 : x.Limit ≤ 8000 := by omega
          have hb4 : 1 ≤ x.Limit := by omega
          have e0 : (x.Is == 0) = true := by simp [i0]
          obtain ⟨y, hy⟩ : ∃ y, y = { x with Count := x.Count + 1 } := ⟨_, rfl⟩
          have HK4 : Hid (Blk (w3.setCell ⟨g9, 2, none⟩ (.int .i64 (x.Count + 1))) g9 60 (hC { x with Count := x.Count + 1 })) := HK9.out.set 2 _
          have HB4 : Hid (Below (w.heap.size + 1) (w.alloc (.cells #[.int .i64 x.Fn, .int .i64 x.At] 89)) (w3.setCell ⟨g9, 2, none⟩ (.int .i64 (x.Count + 1)))) := HB9.out.setCell (p := ⟨g9, 2, none⟩) (by show w.heap.size + 1 ≤ g9; omega) _
          by_cases hlim : x.Limit ≤ x.Count + 1
          · have dl : decide (x.Limit ≤ x.Count + 1) = true := decide_eq_true hlim
            have HBU : Hid (bump x = ({ x with Count := x.Count + 1, Is := 1 }, 1)) := by show _ = _; unfold bump; rw [if_pos i0, if_pos hlim]
            have HG1 : Hid (Good { x with Count := x.Count + 1, Is := 1 }) := by have := HGB.out; rw [HBU.out] at this; exact this
            have HK5 : Hid (Blk ((w3.setCell ⟨g9, 2, none⟩ (.int .i64 (x.Count + 1))).setCell ⟨g9, 5, none⟩ (.int .i64 1)) g9 60 (hC { x with Count := x.Count + 1, Is := 1 })) := HK4.out.set 5 _
            have HB5 : Hid (Below (w.heap.size + 1) (w.alloc (.cells #[.int .i64 x.Fn, .int .i64 x.At] 89)) ((w3.setCell ⟨g9, 2, none⟩ (.int .i64 (x.Count + 1))).setCell ⟨g9, 5, none⟩ (.int .i64 1))) := HB4.out.setCell (p := ⟨g9, 5, none⟩) (by show w.heap.size + 1 ≤ g9; omega) _
            clear hgx2 hlim i0 hy
            go_upto_region 18 with fail
            clear z2 z3 z5 f2 f5 dl e0 HK4 HB4
            generalize (w3.setCell ⟨g9, 2, none⟩ (.int .i64 (x.Count + 1))).setCell ⟨g9, 5, none⟩ (.int .i64 1) = W4 at *
            obtain ⟨hh, c1, p0, p1, y0, y1, y2, y3, y4, y5⟩ := HEND.out W4 { x with Count := x.Count + 1, Is := 1 } HK5.out HB5.out
            have HHD := Lib.hid hh
            clear hh
            dsimp only at y0 y1 y2 y3 y4 y5
            go_still_tail 6, (by kernel_rfl)
            change wpList _ _ _ _ _ W4.drew
            go_wp2_with (at_mapUpdate; go_loud ((with_reducible refine wp_zmap_put rfl rfl Try.underlying85 rfl HHD.out.map (by omega) (k := (x.Fn, x.At)) (z := hV { x with Count := x.Count + 1, Is := 1 }) (Eq.trans (b := placeV x.Fn x.At) rfl (placeKey_val _ _)) (Eq.trans (b := .agg #[.int .i64 x.Fn, .int .i64 x.At, .int .i64 (x.Count + 1), .int .i64 x.Limit, .int .i64 x.Fails, .int .i64 1]) rfl (hV_eq { x with Count := x.Count + 1, Is := 1 })) HG0.out fun w5 hm' hg' => ?_); have HF := Lib.hid (HHD.out.laid (x := { x with Count := x.Count + 1, Is := 1 }) HG1.out (.inl (by show (cur l x.Fn x.At).isSome = true; rw [HX.out]; rfl)) hm' hg'); have HG := Lib.hid hg'; clear hm' hg'))
            go_ret2
            exact TurnPost.of HT.out HBU.out (by omega) HF.out HB5.out HG.out
          · have dl : decide (x.Limit ≤ x.Count + 1) = false := decide_eq_false hlim
            have HBU : Hid (bump x = ({ x with Count := x.Count + 1 }, 0)) := by show _ = _; unfold bump; rw [if_pos i0, if_neg hlim]
            have HG1 : Hid (Good { x with Count := x.Count + 1 }) := by have := HGB.out; rw [HBU.out] at this; exact this
            clear hgx2 hlim i0 hy
            go_upto_region 18 with fail
            clear z2 z3 z5 f2 f5 dl
            generalize w3.setCell ⟨g9, 2, none⟩ (.int .i64 (x.Count + 1)) = W4 at *
            obtain ⟨hh, c1, p0, p1, y0, y1, y2, y3, y4, y5⟩ := HEND.out W4 { x with Count := x.Count + 1 } HK4.out HB4.out
            have HHD := Lib.hid hh
            clear hh
            dsimp only at y0 y1 y2 y3 y4 y5
            go_still_tail 6, (by kernel_rfl)
            change wpList _ _ _ _ _ W4.drew
            go_wp2_with (at_mapUpdate; go_loud ((with_reducible refine wp_zmap_put rfl rfl Try.underlying85 rfl HHD.out.map (by omega) (k := (x.Fn, x.At)) (z := hV { x with Count := x.Count + 1 }) (Eq.trans (b := placeV x.Fn x.At) rfl (placeKey_val _ _)) (Eq.trans (b := .agg #[.int .i64 x.Fn, .int .i64 x.At, .int .i64 (x.Count + 1), .int .i64 x.Limit, .int .i64 x.Fails, .int .i64 x.Is]) rfl (hV_eq { x with Count := x.Count + 1 })) HG0.out fun w5 hm' hg' => ?_); have HF := Lib.hid (HHD.out.laid (x := { x with Count := x.Count + 1 }) HG1.out (.inl (by show (cur l x.Fn x.At).isSome = true; rw [HX.out]; rfl)) hm' hg'); have HG := Lib.hid hg'; clear hm' hg'))
            go_ret2
            exact TurnPost.of HT.out HBU.out (by omega) HF.out HB4.out HG.out
        · by_cases i1 : x.Is = 1
          · have HBU : Hid (bump x = (x, 0)) := by show _ = _; unfold bump; rw [if_neg i0, if_pos i1]
            have e0 : (x.Is == 0) = false := by simp [i1]
            have e2 : (x.Is == 2) = false := by simp [i1]
            have e3 : (x.Is == 3) = false := by simp [i1]
            clear i0 i1
            obtain ⟨hh, c1, p0, p1, y0, y1, y2, y3, y4, y5⟩ := HEND.out w3 x HK9.out HB9.out
            have HHD := Lib.hid hh
            clear hh
            go_upto_region 18 with fail
            go_still_tail 6, (by kernel_rfl)
            change wpList _ _ _ _ _ w3.drew
            go_wp2_with (at_mapUpdate; go_loud ((with_reducible refine wp_zmap_put rfl rfl Try.underlying85 rfl HHD.out.map (by omega) (k := (x.Fn, x.At)) (z := hV x) (Eq.trans (b := placeV x.Fn x.At) rfl (placeKey_val _ _)) (Eq.trans (b := .agg #[.int .i64 x.Fn, .int .i64 x.At, .int .i64 x.Count, .int .i64 x.Limit, .int .i64 x.Fails, .int .i64 x.Is]) rfl (hV_eq x)) HG0.out fun w5 hm' hg' => ?_); have HF := Lib.hid (HHD.out.laid (x := x) hgx (.inl (by rw [HX.out]; rfl)) hm' hg'); have HG := Lib.hid hg'; clear hm' hg'))
            go_ret2
            exact TurnPost.of HT.out HBU.out (by omega) HF.out (HB9.out) HG.out
          · have hgx2 := hgx
            unfold Good at hgx2
            have HBU : Hid (bump x = (x, x.Is)) := by show _ = _; unfold bump; rw [if_neg i0, if_neg i1]
            have e0 : (x.Is == 0) = false := by simp [i0]
            have hI : 0 ≤ x.Is := by omega
            have HI := Lib.hid hI
            have e23 : ((x.Is == 2) = true) ∨ ((x.Is == 2) = false ∧ (x.Is == 3) = true) := by simp only [beq_iff_eq, beq_eq_false_iff_ne]; omega
            clear i0 i1 hgx2 hI
            obtain ⟨hh, c1, p0, p1, y0, y1, y2, y3, y4, y5⟩ := HEND.out w3 x HK9.out HB9.out
            have HHD := Lib.hid hh
            clear hh
            rcases e23 with e2 | ⟨e2, e3⟩
            all_goals
              go_upto_region 18 with fail
              go_still_tail 6, (by kernel_rfl)
              change wpList _ _ _ _ _ w3.drew
              go_wp2_with (at_mapUpdate; go_loud ((with_reducible refine wp_zmap_put rfl rfl Try.underlying85 rfl HHD.out.map (by omega) (k := (x.Fn, x.At)) (z := hV x) (Eq.trans (b := placeV x.Fn x.At) rfl (placeKey_val _ _)) (Eq.trans (b := .agg #[.int .i64 x.Fn, .int .i64 x.At, .int .i64 x.Count, .int .i64 x.Limit, .int .i64 x.Fails, .int .i64 x.Is]) rfl (hV_eq x)) HG0.out fun w5 hm' hg' => ?_); have HF := Lib.hid (HHD.out.laid (x := x) hgx (.inl (by rw [HX.out]; rfl)) hm' hg'); have HG := Lib.hid hg'; clear hm' hg'))
              go_ret2
              exact TurnPost.of HT.out HBU.out HI.out HF.out (HB9.out) HG.out
  all_goals
    rw [ho]
    have HR : Hid (HeatAt w B gH gm (n + 1) hot l) := HL w (World.grownBy.refl _ _) HH.out rfl
    clear ho HL HH hn hf ha h1 h2 b0 b1
    go_enter Try.func25, Try.ntmps25
    go_wp2
    go_ret2
    exact ⟨rfl, HR.out, World.grownBy.refl _ _⟩
end Go.Proofs.Ytjlnaiiajlahgaa.heat
