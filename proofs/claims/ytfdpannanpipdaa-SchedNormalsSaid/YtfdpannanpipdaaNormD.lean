/- SchedNormals: the normal form of a word, walked: each letter is put into the row of the least step that it may come into. -/
import Derived.Test.YtfdpannanpipdaaNormC
import Derived.Test.YtfdpannanpipdaaRowsOwn
import Derived.Test.YtfdpannanpipdaaInsert
import Derived.Test.YtfdpannanpipdaaApp
import Derived.Test.YtfdpannanpipdaaNumF
set_option linter.unusedVariables false
set_option linter.unusedSimpArgs false
namespace Go.Proofs.Ytfdpannanpipdaa.norm
open Go.Bk Go.RowKit

section
variable {ops : Array Oper} {Q : Exit → Act → World → Prop} {a : Act} {w : World} {rest : List Oper} {o : Oper}
theorem wp_appnil {s x : Operand} (hgd : o.guard = none) (ho : o.op = .call { callee := .builtin .append, args := #[s, x], argTypes := #[72, 72] })
    {B : Nat} {v : Value} {xs : List Hd} {w0 : World} {e' : TypeId} (hs : a.eval s = v) {g : Nat} (hx : a.eval x = .slice (some ⟨g, 0, none⟩) 1 1) (hw : w = w0.alloc (.cells #[.slice none 0 0] e')) (hg : g = w0.heap.size) (hown : Own (fun _ => False) w0 B 30 v xs)
    (h63 : xs.length + 1 ≤ 1000000000) (hbase : B ≤ w0.heap.size)
    (h : ∀ v' w', Own (fun _ => False) w' B 30 v' (xs ++ [nilHd]) → w0.grownBy w' v.ownBlock → Stay w0 v v' → wpList Try.prog ops Q rest (a.put o.dst v') w') : wpList Try.prog ops Q (o :: rest) a w :=
  wp_append1s (cs := [.slice none 0 0]) hgd ho Try.underlying72 (show _ = some (some _, Rep.sz Hd, _) from Try.info30) (by decide) (by decide) hs hx hw hg hown (hd_cells nilHd) (fun _ h => h.elim) (by unfold maxLen; omega) (by omega) hbase h
end

def depOf (dep : List (List Bool)) (x y : Int) : Bool := (dep.getD x.toNat []).getD y.toNat false
def nextL (D : Int → Int → Bool) (r : List Int) (n : Nat) : List Int := (List.range n).map fun k => ((nx D r (k : Nat) : Nat) : Int)
def nextTo (D : Int → Int → Bool) (x : Int) (r : List Int) (n k : Nat) : List Int := (nextL D (x :: r) n).take k ++ (nextL D r n).drop k
theorem nextL_len (D : Int → Int → Bool) (r : List Int) (n : Nat) : (nextL D r n).length = n := by simp [nextL]
theorem nextL_get (D : Int → Int → Bool) (r : List Int) {n k : Nat} (h : k < n) : (nextL D r n)[k]? = some ((nx D r (k : Nat) : Nat) : Int) := by unfold nextL; rw [List.getElem?_map, List.getElem?_range h]; rfl
theorem nextTo_zero (D : Int → Int → Bool) (x : Int) (r : List Int) (n : Nat) : nextTo D x r n 0 = nextL D r n := by simp [nextTo]
theorem nextTo_end (D : Int → Int → Bool) (x : Int) (r : List Int) (n : Nat) : nextTo D x r n n = nextL D (x :: r) n := by
  unfold nextTo
  rw [List.take_of_length_le (by rw [nextL_len]; omega), List.drop_of_length_le (by rw [nextL_len]; omega), List.append_nil]
theorem nextTo_len (D : Int → Int → Bool) (x : Int) (r : List Int) {n k : Nat} (h : k ≤ n) : (nextTo D x r n k).length = n := by unfold nextTo; simp [nextL_len]; omega
theorem nextTo_get (D : Int → Int → Bool) (x : Int) (r : List Int) {n k : Nat} (h : k < n) : (nextTo D x r n k)[k]? = some ((nx D r (k : Nat) : Nat) : Int) := by
  unfold nextTo
  rw [List.getElem?_append_right (by rw [List.length_take, nextL_len]; omega), List.length_take, nextL_len, Nat.min_eq_left (by omega), Nat.sub_self, List.getElem?_drop, Nat.add_zero, nextL_get D r h]
theorem nextTo_set (D : Int → Int → Bool) (x : Int) (r : List Int) {n k : Nat} (h : k < n) : (nextTo D x r n k).set k ((nx D (x :: r) (k : Nat) : Nat) : Int) = nextTo D x r n (k + 1) := by
  unfold nextTo
  rw [List.set_append_right _ _ (by rw [List.length_take, nextL_len]; omega), List.length_take, nextL_len, Nat.min_eq_left (by omega), Nat.sub_self, List.drop_eq_getElem_cons (by rw [nextL_len]; omega), List.set_cons_zero, List.take_add_one, nextL_get D (x :: r) h]
  simp
theorem nextTo_same (D : Int → Int → Bool) (x : Int) (r : List Int) {n k : Nat} (h : k < n) (hD : D x (k : Nat) = false) : nextTo D x r n k = nextTo D x r n (k + 1) := by
  have h1 : nx D (x :: r) (k : Nat) = nx D r (k : Nat) := by rw [nx, hD]; simp
  rw [← nextTo_set D x r h, h1]
  refine (List.ext_getElem? fun j => ?_)
  rw [List.getElem?_set]
  split
  · rename_i he
    subst he
    rw [nextTo_get D x r h, if_pos (by rw [nextTo_len D x r (by omega)]; exact h)]
  · rfl
theorem nx_len (D : Int → Int → Bool) (r : List Int) (a : Int) : nx D r a ≤ r.length := Nat.le_trans (nx_le D r a) (ht_le D r)
theorem intsV_set (xs : List Int) (k : Nat) (x : Int) : (intsV xs).set k (.int .i64 x) = intsV (xs.set k x) := by simp [intsV, List.map_set]
theorem intsV_get {xs : List Int} {k : Nat} {x : Int} (h : xs[k]? = some x) : (intsV xs)[k]? = some (.int .i64 x) := by simp [intsV, h]
theorem take_rev {l : List Int} {q : Nat} {x : Int} (h : l[q]? = some x) : (l.take (q + 1)).reverse = x :: (l.take q).reverse := by rw [List.take_add_one, h]; simp

theorem rows_ready {w : World} {B : Nat} {eS e : TypeId} {v : Value} {hs : List Hd} {ls : List (List Int)} (h : RowsOwn w B eS e v hs ls) {r m : Nat} {L : List Int} (hl : ls[r]? = some L) (hm : L.length = m) :
    ∃ (g cap nn cr : Nat) (ar : Option Addr) (hd : Hd), v = .slice (some ⟨g, 0, none⟩) nn cap ∧ r < nn ∧ hs[r]? = some hd ∧ hd.val = .slice ar m cr ∧ w.cell? ⟨g, r, none⟩ = some (.slice ar m cr) ∧ w.frozen? ⟨g, r, none⟩ = false ∧ B ≤ g ∧ g < w.heap.size ∧
      Own (fun _ => False) w B e (.slice ar m cr) L ∧ (∀ k, (Value.slice ar m cr).ownBlock = some k → k ≠ g ∧ B ≤ k) := by
  obtain ⟨x, hx⟩ := h.get hl
  obtain ⟨g, cap, rfl, hB, hg, hc, hf⟩ := h.at hx
  have hrow := h.row r x L hx hl
  obtain ⟨ar, cr, hv, -, -, -⟩ := num.own_len hrow hm
  rw [hv] at hc hrow
  refine ⟨g, cap, _, cr, ar, x, rfl, (List.getElem?_eq_some_iff.1 hx).1, hx, hv, hc, hf, hB, hg, hrow, fun k hk => ⟨?_, (hrow.lt k hk).1⟩⟩
  rintro rfl
  exact h.off r x hx k (by rw [hv]; exact hk) rfl
theorem own_one {α : Type} [Rep α] {S : Nat → Prop} {w : World} {B : Nat} {e : TypeId} {v : Value} {xs : List α} (h : Own S w B e v xs) : v.oneCell' = true := by
  obtain ⟨a, c, rfl, -⟩ := h.arr
  rfl

def normRel (w1 : World) (gN nd : Nat) (D : Int → Int → Bool) (l : List Int) (n : Nat) (out i : Value) (w' : World) : Prop :=
  ∃ (q : Nat) (hs : List Hd), q ≤ n ∧ i = .int .i64 q ∧ RowsOwn w' w1.heap.size 30 3 out hs (outs D (l.take q).reverse) ∧ Blk w' gN 3 (intsV (nextL D (l.take q).reverse nd)) ∧ Below gN w1 w'
def innRel (wp : World) (gN nd : Nat) (D : Int → Int → Bool) (x : Int) (r : List Int) (i : Value) (w' : World) : Prop :=
  ∃ k : Nat, k ≤ nd ∧ i = .int .i64 k ∧ Blk w' gN 3 (intsV (nextTo D x r nd k)) ∧ wp.grownBy w' (some gN) ∧ Below gN wp w'

set_option maxRecDepth 100000 in
set_option maxHeartbeats 2000000 in
theorem normal_ok {S S2 : Nat → Prop} {w : World} {a a2 : Option Addr} {c c2 n nd : Nat} {l : List Int} {dep : List (List Bool)} (hn : l.length = n) (hn2 : dep.length = nd) (h : Arr S w a l) (h2 : Arr S2 w a2 dep) (hS : ∀ b, S b → b < w.heap.size) (hS2 : ∀ b, S2 b → b < w.heap.size) (he : depErr l dep = 0) :
    Calls Try.prog 55 #[.slice a n c, .slice a2 nd c2] w fun e w' => ∃ v hs, e = .returned (.tuple #[v, .int .i64 0]) ∧ RowsOwn w' w.heap.size 30 3 v hs (outs (depOf dep) l.reverse) ∧ Below w.heap.size w w' := by
  obtain ⟨hl200, hd12, hgood, hall⟩ := depErr_zero he
  rw [hn] at hl200
  rw [hn2] at hd12
  have HN := Lib.hid hn; have HN2 := Lib.hid hn2; have HE := Lib.hid he; have HG := Lib.hid hgood; have HAL := Lib.hid hall
  clear hn hn2 he hgood hall
  have HC := Lib.hid (check_any (c := c) (c2 := c2) HN.out HN2.out h h2 hS hS2)
  rw [HE.out] at HC
  obtain ⟨D, hD⟩ : ∃ D, depOf dep = D := ⟨_, rfl⟩
  rw [hD]
  have HD := Lib.hid hD
  clear hD
  go_enter Try.func55, Try.ntmps55
  go_wp2_with fail
  refine HC.out.mono ?_
  rintro e w0 ⟨rfl, hb0⟩
  have HB0 := Lib.hid hb0
  clear hb0 HC
  go_wp2_with (with_reducible refine wp_make rfl rfl Try.underlying30 Try.info3 rfl rfl rfl (by omega) (by unfold maxLen; omega) fun w1 hblk hbel hsz => ?_)
  obtain ⟨gN, hgN⟩ : ∃ g, w0.heap.size = g := ⟨_, rfl⟩
  rw [hgN] at hblk hbel hsz ⊢
  have hz : List.replicate nd (Value.int .i64 0) = intsV (nextL D [] nd) := by
    refine List.ext_getElem? fun k => ?_
    unfold intsV
    rw [List.getElem?_map, List.getElem?_replicate]
    by_cases hk : k < nd
    · rw [if_pos hk, nextL_get D [] hk]; rfl
    · rw [if_neg hk, List.getElem?_eq_none (by rw [nextL_len]; omega)]; rfl
  rw [hz] at hblk
  have HK := Lib.hid hblk; have HK0 := Lib.hid hsz; have HSZ := Lib.hid hsz
  have HW1 : Hid (Below w.heap.size w w1) := HB0.out.trans (hbel.mono (by rw [← hgN]; exact HB0.out.size))
  have hwg : w.heap.size ≤ gN := by rw [← hgN]; exact HB0.out.size
  have HWG := Lib.hid hwg
  clear hblk hbel hsz hz hgN hwg
  go_wp2_with fail
  go_loopw [8, 27] (normRel w1 gN nd D l n) (fun _ i _ => n - (intOf i).toNat)
  case atStart => exact ⟨0, [], Nat.zero_le _, rfl, RowsOwn.nil _ _ _ _, HK.out, Below.refl _ _⟩
  case round =>
    obtain ⟨q, hs, hq, rfl, hro, hbk, hbw⟩ := hrel
    have HRO := Lib.hid hro; have HBK := Lib.hid hbk; have HBW := Lib.hid hbw
    have hW : Below w.heap.size w wr := HW1.out.trans (hbw.mono HWG.out)
    have HWB := Lib.hid hW
    have h' := h.keep (w' := wr) (fun b hb => hW.block b (hS b hb))
    clear hro hbk hbw hW HK
    obtain ⟨ao, co, rfl, hco, hno⟩ := HRO.out.form
    rw [outs_len] at *
    obtain ⟨R, hR⟩ : ∃ R, (l.take q).reverse = R := ⟨_, rfl⟩
    rw [hR] at HRO HBK hco ⊢
    obtain ⟨H, hH⟩ : ∃ H, ht D R = H := ⟨_, rfl⟩
    rw [hH] at HRO hco ⊢
    have HR := Lib.hid hR; have HH := Lib.hid hH
    have HHL : Hid (hs.length = H) := by show _ = _; rw [HRO.out.len, outs_len, hH]
    have hHq : H ≤ q := by have := ht_le D R; rw [hH, ← hR] at this; simp at this; omega
    clear hR hH
    by_cases hlt : q < n
    · obtain ⟨x, hx⟩ := get_lt HN.out hlt
      obtain ⟨b, off, rfl, hSb, q1, -⟩ := arr_int h' hx
      have hxd := List.all_eq_true.1 HAL.out x (List.mem_of_getElem? hx)
      unfold inDep at hxd
      rw [HN2.out] at hxd
      obtain ⟨y, rfl⟩ : ∃ y : Nat, x = y := ⟨x.toNat, by simp at hxd; omega⟩
      have hyn : y < nd := by simp at hxd; exact hxd
      obtain ⟨st, hst⟩ : ∃ st, nx D R (y : Nat) = st := ⟨_, rfl⟩
      have q2 : wr.cell? ⟨gN, y, none⟩ = some (.int .i64 (st : Nat)) := HBK.out.cell (intsV_get (by rw [nextL_get D R hyn, hst]))
      have hstH : st ≤ H := by have := nx_le D R (y : Nat); rw [hst, HH.out] at this; exact this
      have HX := Lib.hid hx; have HST := Lib.hid hst
      have hbase : w1.heap.size ≤ wr.heap.size := HBW.out.size
      clear hx hxd hst h'
      obtain ⟨L, hL⟩ : ∃ L, lay D R st = L := ⟨_, rfl⟩
      obtain ⟨m, hm⟩ : ∃ m, L.length = m := ⟨_, rfl⟩
      have hm200 : m ≤ 200 := by have := lay_len D R st; rw [hL, hm, ← HR.out] at this; simp at this; omega
      have HLS : Hid (Srt L) := hL ▸ lay_srt D R st
      have HL := Lib.hid hL; have HM := Lib.hid hm
      clear hL hm
      by_cases hnew : st = H
      case' pos =>
        subst hnew
        have heq : ((st : Int) == (st : Int)) = true := by simp
        have hRDY : ∀ (w' : World) (v' : Value), Own (fun _ => False) w' w1.heap.size 30 v' (hs ++ [nilHd]) → wr.grownBy w' (Value.slice ao st co).ownBlock → Stay wr (Value.slice ao st co) v' →
            Below w1.heap.size wr w' ∧ ∃ lsx : List (List Int), RowsOwn w' w1.heap.size 30 3 v' (hs ++ [nilHd]) lsx ∧ lsx[st]? = some L ∧ lsx.set st (ins (y : Int) L) = outs D ((y : Int) :: R) := by
          intro w' v' hown' hg' hst'
          have hLn : L = [] := by rw [← HL.out]; exact lay_none D R st (by rw [HH.out]; exact Nat.le_refl _)
          refine ⟨(Below.refl _ _).grown hg' hbase (fun k hk => (HRO.out.out.lt k hk).1), outs D R ++ [[]], HRO.out.pushNil hown' hg' hst', ?_, ?_⟩
          · rw [hLn, List.getElem?_append_right (by rw [outs_len, HH.out]; exact Nat.le_refl _), outs_len, HH.out, Nat.sub_self]; rfl
          · rw [outs_new D (r := R) (x := (y : Int)) (by rw [HST.out, HH.out]), HST.out, hLn]
        have HRDY := Lib.hid hRDY
        clear hRDY
        go_wp2_with (at_builtin; (with_reducible refine wp_appnil rfl rfl rfl rfl (by first | rfl | simp) rfl HRO.out.out (by have := HHL.out; omega) hbase fun v' wq hown' hg' hst' => ?_); obtain ⟨hbx, lsx, hro, hlx, hset⟩ := HRDY.out _ _ hown' hg' hst'; obtain ⟨g, cap, nn, cr, ar, hd, rfl, hnn, hhd, hdv, qh, qf, hBg, hgs, hrow, hne⟩ := rows_ready hro hlx HM.out; have HX1 := Lib.hid hbx; have HRX := Lib.hid hro; have HSET := Lib.hid hset; have HHD := Lib.hid hhd; have HDV := Lib.hid hdv; have HROW := Lib.hid hrow; have HNE := Lib.hid hne; clear hown' hg' hst' hbx hro hlx hset hhd hdv hrow hne)
        have HBK := Lib.hid (HBK.out.below HX1.out HSZ.out)
        have HBW := Lib.hid (HBW.out.trans (HX1.out.mono (Nat.le_of_lt HSZ.out)))
      case' neg =>
        have heq : ((st : Int) == (H : Int)) = false := by simp; omega
        obtain ⟨wq, rfl⟩ : ∃ wq : World, wq = wr := ⟨_, rfl⟩
        obtain ⟨lsx, hlsx⟩ : ∃ lsx, outs D R = lsx := ⟨_, rfl⟩
        have hlx : lsx[st]? = some L := by rw [← hlsx, ← HL.out]; exact outs_get D (by rw [HH.out]; omega)
        have HSET : Hid (lsx.set st (ins (y : Int) L) = outs D ((y : Int) :: R)) := by
          show _ = _
          rw [outs_old D (by rw [HST.out, HH.out]; omega), HST.out, HL.out, hlsx]
        have hro := HRO.out
        rw [hlsx] at hro
        obtain ⟨g, cap, nn, cr, ar, hd, hve, hnn, hhd, hdv, qh, qf, hBg, hgs, hrow, hne⟩ := rows_ready hro hlx HM.out
        cases hve
        have HRX := Lib.hid hro; have HHD := Lib.hid hhd; have HDV := Lib.hid hdv; have HROW := Lib.hid hrow; have HNE := Lib.hid hne
        clear hro hlx hlsx hhd hdv hrow hne
        go_wp2_with fail
      all_goals
        refine (bsearch_any (x := (y : Int)) HM.out (num.arr_of_own HROW.out).1 HLS.out (by omega)).mono ?_
        rintro e w3 ⟨⟨bb, rfl⟩, rfl⟩
        have hIl := cnt_le (y : Int) L
        obtain ⟨I, hI⟩ : ∃ I, cnt (y : Int) L = I := ⟨_, rfl⟩
        rw [hI] at hIl ⊢
        have HI := Lib.hid hI
        clear hI
        go_wp2_with fail
        have hal : Below wq.heap.size wq (wq.alloc (.cells #[.int .i64 (y : Int)] 3)) := (Below.refl _ _).alloc (Nat.le_refl _) _
        have hbq : w1.heap.size ≤ wq.heap.size := Nat.le_trans hBg (Nat.le_of_lt hgs)
        have hIns := insert_any (B := w1.heap.size) (i := I) (vc := 1) (HROW.out.below hal (fun _ h => h.elim)) hIl (blk_new wq [.int .i64 (y : Int)] 3) (fun hk => by have := (HROW.out.lt _ hk).2; omega) (x := (y : Int)) (by unfold I64; omega) (by rw [HM.out]; omega) (Nat.le_trans hbq hal.size)
        refine hIns.mono ?_
        rintro e w4 ⟨v2, rfl, hown4, hg4, hst4⟩
        have hins : L.take I ++ (y : Int) :: L.drop I = ins (y : Int) L := by unfold ins; rw [HI.out]
        rw [hins] at hown4
        obtain ⟨av, cv, hv2, -⟩ := num.own_len hown4 (n := m + 1) (by rw [ins_len, HM.out])
        subst hv2
        obtain ⟨hd2, hhd2⟩ : ∃ h : Hd, h.val = .slice av (m + 1) cv := ⟨⟨_, own_one hown4⟩, rfl⟩
        have hro4 := (HRX.out.below hal).grow (x' := hd2) rfl HHD.out (by rw [HDV.out]; exact hg4) (by rw [hhd2]; exact hown4) (by rw [HDV.out, hhd2]; exact hst4)
        rw [HSET.out, hhd2] at hro4
        have HRO4 := Lib.hid hro4
        have q5 : w4.cell? ⟨g, st, none⟩ = some (.slice ar m cr) := (cell_grown hg4 (Nat.lt_of_lt_of_le hgs hal.size) (fun hk => (HNE.out g hk).1 rfl)).trans ((hal.cell (p := ⟨g, st, none⟩) hgs).trans qh)
        have q6 : w4.frozen? ⟨g, st, none⟩ = false := (frozen_grown hg4 (Nat.lt_of_lt_of_le hgs hal.size) (fun hk => (HNE.out g hk).1 rfl)).trans ((World.frozen?_of_block (w := wq) (hal.block g hgs)).trans qf)
        have hX4 : Below w1.heap.size wq (w4.setCell ⟨g, st, none⟩ (.slice av (m + 1) cv)) := ((hal.mono hbq).grown hg4 (Nat.le_trans hbq hal.size) (fun k hk => (HNE.out k hk).2)).setCell (p := ⟨g, st, none⟩) hBg (.slice av (m + 1) cv)
        have HBK4 := Lib.hid (HBK.out.below hX4 HSZ.out)
        have HBW4 := Lib.hid (HBW.out.trans (hX4.mono (Nat.le_of_lt HSZ.out)))
        have hWf : Below w.heap.size w (w4.setCell ⟨g, st, none⟩ (.slice av (m + 1) cv)) := HW1.out.trans (HBW4.out.mono HWG.out)
        obtain ⟨dr, hdr⟩ := get_lt HN2.out hyn
        have hdl : dr.length = nd := by have := (HG.out.2.1 y dr (by rw [HN2.out]; exact hyn) hdr).1; rw [this, HN2.out]
        obtain ⟨b2, off2, ad, cd, rfl, hSb2, q7, -, -, hda⟩ := arr_list (h2.keep (fun b hb => hWf.block b (hS2 b hb))) hdr
        rw [hdl] at q7
        have HDA : Hid (Arr S2 w ad dr) := by
          obtain ⟨b3, off3, ad3, cd3, he3, -, q8, -, -, hda3⟩ := arr_list h2 hdr
          cases he3
          have := (hWf.cell (p := ⟨b2, off2 + y, none⟩) (hS2 b2 hSb2)).symm.trans q7
          rw [q8] at this
          cases this
          exact hda3
        have HDL := Lib.hid hdl; have HDR := Lib.hid hdr; have HWF := Lib.hid hWf
        clear hIns hown4 hg4 hst4 hro4 hal hX4 hWf hda hdl hdr hins hhd2 HRX HBK HBW HHD HDV HROW
        go_wp2_with fail
        clear q5 q6 q7 qh qf q1 q2
        generalize w4.setCell ⟨g, st, none⟩ (.slice av (m + 1) cv) = wp at *
        go_loopw [67] (innRel wp gN nd D (y : Int) R) (fun i _ => nd - (intOf i).toNat)
        case atStart => exact ⟨0, Nat.zero_le _, rfl, by rw [nextTo_zero]; exact HBK4.out, World.grownBy.refl _ _, Below.refl _ _⟩
        case round =>
          obtain ⟨k, hk, rfl, hbk, hgk, hbw⟩ := hrel
          have HBK5 := Lib.hid hbk; have HGK := Lib.hid hgk; have HBW5 := Lib.hid hbw
          have hW5 : Below w.heap.size w wr := HWF.out.trans (hbw.mono HWG.out)
          have HW5 := Lib.hid hW5
          by_cases hkl : k < nd
          · obtain ⟨bk, hbk2⟩ := get_lt HDL.out hkl
            obtain ⟨b3, off3, rfl, -, q3⟩ := arr_bool (HDA.out.keep (fun b hb => hW5.block b (hS2 b hb))) hbk2
            have hDk : D (y : Int) (k : Int) = bk := by
              rw [← HD.out]
              unfold depOf
              simp only [Int.toNat_natCast, List.getD_eq_getElem?_getD, HDR.out, hbk2, Option.getD_some]
            have HDK := Lib.hid hDk
            obtain ⟨p, hp⟩ : ∃ p, nx D R (k : Nat) = p := ⟨_, rfl⟩
            have hp200 : p ≤ 200 := by have := nx_len D R (k : Nat); rw [hp, ← HR.out] at this; simp at this; omega
            have q4 : wr.cell? ⟨gN, k, none⟩ = some (.int .i64 (p : Nat)) := hbk.cell (intsV_get (by rw [nextTo_get D _ R hkl, hp]))
            have q5 : wr.frozen? ⟨gN, k, none⟩ = false := hbk.frozen k
            have HP := Lib.hid hp
            clear hbk hgk hbw hW5 hbk2 hDk hp
            cases bk with
            | false =>
              go_wp2_with fail
              go_roundw
              case rel => exact ⟨k + 1, by omega, by go_num, by rw [← nextTo_same D _ R hkl HDK.out]; exact HBK5.out, HGK.out, HBW5.out⟩
              case measure => simp [intOf]; omega
            | true =>
              have hnx : nx D ((y : Int) :: R) (k : Nat) = max p (st + 1) := by rw [nx, HDK.out, if_pos rfl, HP.out, HST.out]
              have HBK6 : Hid (∀ v : Int, v = ((max p (st + 1) : Nat) : Int) → Blk (wr.setCell ⟨gN, k, none⟩ (.int .i64 v)) gN 3 (intsV (nextTo D (y : Int) R nd (k + 1)))) := by
                rintro v rfl
                have := HBK5.out.set k (.int .i64 ((max p (st + 1) : Nat) : Int))
                rw [intsV_set, ← hnx, nextTo_set D _ R hkl] at this
                rw [← hnx]
                exact this
              have hw : IntKind.i64.wrap ((st : Int) + 1) = (st : Int) + 1 := by rw [IntKind.wrap_i64]; omega
              clear hnx
              go_wp2_with fail
              go_roundw
              case rel => exact ⟨k + 1, by omega, by go_num, HBK6.out _ (by first | omega | (push_cast; rfl) | simp), grownBy_setCell HGK.out k _, HBW5.out.setCell (p := ⟨gN, k, none⟩) (Nat.le_refl _) _⟩
              case measure => simp [intOf]; omega
          · obtain rfl : k = nd := by omega
            have HTQ := Lib.hid (take_rev HX.out)
            have HRO5 := Lib.hid (HRO4.out.keepLow HGK.out HSZ.out)
            have HBK7 : Hid (Blk wr gN 3 (intsV (nextL D ((y : Int) :: R) k))) := by
              have := HBK5.out
              rw [nextTo_end] at this
              exact this
            have HBW7 := Lib.hid (HBW4.out.trans HBW5.out)
            clear hbk hgk hbw hW5
            go_wp2_with fail
            go_roundw
            case rel => exact ⟨q + 1, _, by omega, by go_num, by rw [HTQ.out, HR.out]; exact HRO5.out, by rw [HTQ.out, HR.out]; exact HBK7.out, HBW7.out⟩
            case measure => simp [intOf]; omega
    · obtain rfl : q = n := by omega
      have HTA : Hid (l.take q = l) := by show _ = _; rw [← HN.out, List.take_length]
      have HF := HRO.out
      rw [← HR.out, HTA.out] at HF
      clear h'
      go_wp2_with fail
      go_ret2
      exact ⟨_, _, rfl, HF.base HW1.out.size, HWB.out⟩
end Go.Proofs.Ytfdpannanpipdaa.norm
