/- The document's Read, walked. -/
import Derived.Test.YtimlhjjdaggiiaaSpoolE
import Derived.Test.YtimlhjjdaggiiaaSpoolD
set_option linter.unusedVariables false
set_option linter.unusedSimpArgs false
namespace Go.Proofs.Ytimlhjjdaggiiaa.spool
open Go.Bk Go.RowKit

theorem take_drop_succ {l : List UInt8} {i : Nat} {y : UInt8} (h1 : 1 ≤ i) (hy : l[i]? = some y) : (l.take (i + 1)).drop 1 = (l.take i).drop 1 ++ [y] := by
  have hi : i < l.length := (List.getElem?_eq_some_iff.1 hy).1
  rw [List.take_add_one, hy, List.drop_append_of_le_length (by simp; omega)]; rfl
theorem num_mul_add (n : Nat) (y : UInt8) : IntKind.u64.wrap (IntKind.u64.wrap ((n : Int) * 256) + IntKind.u64.wrap (y.toNat : Int)) = (numStep n y : Int) := by
  have := y.toNat_lt
  rw [IntKind.wrap_u64, IntKind.wrap_u64, IntKind.wrap_u64]; unfold numStep; omega

theorem same_bytes_at {S1 S2 : Nat → Prop} {w : World} {a1 a2 : Option Addr} {c1 c2 n1 n2 : Nat} {xs ys : List UInt8} (h1 : Arr S1 w a1 xs) (h2 : Arr S2 w a2 ys) (e1 : xs.length = n1) (e2 : ys.length = n2) :
    Calls Try.prog 81 #[.slice a1 n1 c1, .slice a2 n2 c2] w fun e w' => e = .returned (.bool (decide (xs = ys))) ∧ Quiet w w' := e1 ▸ e2 ▸ same_bytes_any h1 h2
theorem record_kn {w : World} (K N : Int) : Calls Try.prog 82 #[.agg #[.int .i64 K, .int .i64 N]] w fun e w' =>
      e = .returned (.slice (some ⟨w.heap.size + 1, 0, none⟩) 13 13) ∧ Blk w' (w.heap.size + 1) 5 (bytesV (recOf ⟨K, N⟩)) ∧ Below w.heap.size w w' := record_any (v := ⟨K, N⟩)
theorem serr_kn {w : World} (K N : Int) : Calls Try.prog 83 #[.agg #[.int .i64 K, .int .i64 N]] w fun e w' => e = .returned (.int .i64 (rightOf ⟨K, N⟩)) ∧ Below w.heap.size w w' := serr_any (v := ⟨K, N⟩)
theorem arr_rec {w : World} {g : Nat} {v : Api.Val} (h : Blk w g 5 (bytesV (recOf v))) : Arr (fun _ => True) w (some ⟨g, 0, none⟩) (recOf v) := blk_bytes h (by rw [recOf_len]; simp [maxLen]) trivial

def rreadRel (S : Nat → Prop) (w : World) (xs : List UInt8) (b out : Value) (w' : World) : Prop :=
  ∃ (rest : List UInt8) (acc : List Api.Val) (a : Option Addr) (n c : Nat), n = rest.length ∧ 13 * acc.length + n = xs.length ∧ n ≤ c ∧ b = .slice a n c ∧ Arr S w' a rest ∧ Own (fun _ => False) w' w.heap.size 48 out acc ∧ readOf xs = readAll (rest.length / 13) rest acc ∧ Below w.heap.size w w'

def numLoop (w : World) (rest : List UInt8) (n i : Value) (w' : World) : Prop := ∃ k : Nat, 1 ≤ k ∧ k ≤ 9 ∧ i = .int .i64 k ∧ n = .int .u64 (numOf ((rest.take k).drop 1)) ∧ Quiet w w'

set_option maxRecDepth 100000 in
set_option maxHeartbeats 1000000 in
theorem rread_any {S : Nat → Prop} {w : World} {a : Option Addr} {c : Nat} {xs : List UInt8} (h : Arr S w a xs) (hc : xs.length ≤ c) (hS : ∀ b, S b → b < w.heap.size) :
    Calls Try.prog 27 #[.slice a xs.length c] w fun e w' =>
      (∃ a' c', e = .returned (.tuple #[.slice a' (readOf xs).1.length c', .int .i64 (readOf xs).2]) ∧ Arr (Fresh w w') w' a' (readOf xs).1) ∧ Below w.heap.size w w' := by
  have hm := h.small
  unfold maxLen at hm
  by_cases hl : 4000 < xs.length
  · have HE : Hid (readOf xs = ([], 2)) := if_pos hl
    go_enter Try.func27, Try.ntmps27
    go_wp2
    go_ret2
    exact ⟨⟨none, 0, by rw [HE.out]; rfl, by rw [HE.out]; exact Arr.nil _ _ _⟩, Below.refl _ _⟩
  · have HR : Hid (readOf xs = readAll (xs.length / 13) xs []) := if_neg hl
    have hl' : xs.length ≤ 4000 := by omega
    clear hl
    go_enter Try.func27, Try.ntmps27
    go_wp2
    go_loopw [0, 4] (rreadRel S w xs) (fun b _ _ => match b with | .slice _ n _ => n | _ => 0)
    case atStart => exact ⟨xs, [], a, xs.length, c, rfl, by simp, hc, rfl, h, Own.nil _ _ _ _, HR.out, Below.refl _ _⟩
    case round =>
      obtain ⟨rest, acc, a, n, c, hn, hal, hnc, rfl, harr, ho, hr, hb⟩ := hrel
      have HN := Lib.hid hn; have HO := Lib.hid ho; have HR' := Lib.hid hr; have HB := Lib.hid hb; have HA := Lib.hid harr
      have hsz := hb.size
      clear hn ho hr hb harr h HR hc
      by_cases h13 : 13 ≤ n
      · obtain ⟨y, hy⟩ : ∃ y, rest[0]? = some y := ⟨_, List.getElem?_eq_getElem (by have := HN.out; omega)⟩
        obtain ⟨b, off, rfl, hSb, q0⟩ := arr_byte HA.out hy
        have hbl := hS b hSb
        have HY := Lib.hid hy
        clear hy
        go_wp2
        obtain ⟨wo, rfl⟩ : ∃ wo : World, wo = wr := ⟨_, rfl⟩
        go_loopw [5, 6] (numLoop wo rest) (fun _ i _ => 9 - (intOf i).toNat)
        case atStart => exact ⟨1, by omega, by omega, rfl, by simp [numOf], Quiet.refl _⟩
        case round =>
          obtain ⟨k, hk1, hk9, rfl, rfl, hq⟩ := hrel
          have HQ := Lib.hid hq
          clear hq
          have hA' : Arr S wr (some ⟨b, off, none⟩) rest := HA.out.keep (fun b _ => HQ.out.heap b)
          by_cases hlt : k < 9
          · obtain ⟨z, hz⟩ : ∃ z, rest[k]? = some z := ⟨_, List.getElem?_eq_getElem (by have := HN.out; omega)⟩
            obtain ⟨b', off', he, -, q1⟩ := arr_byte hA' hz
            obtain ⟨rfl, rfl⟩ : b = b' ∧ off = off' := by simpa using he
            have HS : Hid (numOf ((rest.take (k + 1)).drop 1) = numStep (numOf ((rest.take k).drop 1)) z) := by show _ = _; rw [take_drop_succ hk1 hz, numOf_snoc]
            have hkn : k < n := by omega
            clear hz he hA' q0
            generalize numOf ((rest.take k).drop 1) = m at *
            go_wp2
            go_roundw
            case rel => exact ⟨k + 1, by omega, by omega, by go_num, by rw [HS.out, ← num_mul_add], HQ.out⟩
            case measure => simp [intOf]; omega
          · obtain rfl : k = 9 := by omega
            obtain ⟨b', off', he, -, q0⟩ := arr_byte hA' HY.out
            obtain ⟨rfl, rfl⟩ : b = b' ∧ off = off' := by simpa using he
            replace q0 : wr.cell? ⟨b, off, none⟩ = some (.int .u8 y.toNat) := q0
            clear hlt he
            generalize hN : numOf ((rest.take 9).drop 1) = N at *
            have HNN := Lib.hid hN
            clear hN
            go_wp2_with fail
            have HV : Hid (valOf (rest.take 13) = ⟨wrap64 y.toNat, wrap64 N⟩) := by
              show valOf _ = _
              unfold valOf
              have e1 : (rest.take 13).headD 0 = y := by rw [List.headD_eq_head?_getD, List.head?_eq_getElem?, List.getElem?_take, if_pos (by omega), HY.out]; rfl
              have hy8 := y.toNat_lt
              rw [e1, List.take_take, show min 9 13 = 9 from rfl, HNN.out, IntWalk.i64_left, show wrap64 (y.toNat : Int) = y.toNat by unfold wrap64; omega]
            refine cut_world (fun wz => wr.heap.size < wz.heap.size ∧ Below wr.heap.size wr wz ∧ wz.cell? ⟨wr.heap.size, 0, none⟩ = some (.int .i64 (wrap64 y.toNat)) ∧ wz.cell? ⟨wr.heap.size, 1, none⟩ = some (.int .i64 (wrap64 N))) ?_ ?_
            case refine_1 => exact ⟨by simp, (Below.refl _ _).alloc (Nat.le_refl _) _, by simp, by simp⟩
            rintro wz ⟨hsz2, hb2, g0, g1⟩
            have HB2 := Lib.hid (HB.out.trans ((HQ.out.below w.heap.size).trans (hb2.mono (by have := (HQ.out.below w.heap.size).size; omega))))
            have HO2 := Lib.hid (((HO.out.below (HQ.out.below _) (fun _ h => h.elim)).below hb2 (fun _ h => h.elim)))
            have hA2 : Arr S wz (some ⟨b, off, none⟩) rest := HA.out.keep (fun b hb => ((HQ.out.below wo.heap.size).block b (by have := hS b hb; omega)) ▸ hb2.block b (by have := hS b hb; have := (HQ.out.below w.heap.size).size; omega))
            have hwr : w.heap.size ≤ wr.heap.size := Nat.le_trans hsz (HQ.out.below w.heap.size).size
            clear hb2 HQ HB HO q0
            generalize wr.heap.size = g at *
            have HIK : Hid (I64 (wrap64 (y.toNat : Int)) ∧ I64 (wrap64 (N : Int))) := by constructor <;> (unfold I64 wrap64; omega)
            generalize wrap64 (y.toNat : Int) = K0 at *
            generalize wrap64 (N : Int) = N0 at *
            have hc13 : (13 : Int) ≤ c := by omega
            have HA2 := Lib.hid hA2; have HW := Lib.hid hwr
            have l13 : (rest.take 13).length = 13 := by have := HN.out; simp; omega
            have HL := Lib.hid l13
            clear hA2 l13 hwr
            go_region_held3 (fun w' => w'.cell? ⟨g, 0, none⟩ = some (.int .i64 K0) ∧ w'.cell? ⟨g, 1, none⟩ = some (.int .i64 N0)) (first | exact ⟨g0, g1⟩ | exact ⟨e0, e1⟩ | exact ⟨by simpa using g0, by simpa using g1⟩ | exact ⟨by simpa using e0, by simpa using e1⟩) (first
              | (go_at_call 82; refine (record_kn K0 N0).mono ?_; rintro e w3 ⟨rfl, hblk, hbel⟩; have e0 : w3.cell? ⟨g, 0, none⟩ = some (.int .i64 K0) := (hbel.cell (p := ⟨g, 0, none⟩) hsz2).trans g0; have e1 : w3.cell? ⟨g, 1, none⟩ = some (.int .i64 N0) := (hbel.cell (p := ⟨g, 1, none⟩) hsz2).trans g1; have HK3 := Lib.hid hblk; have HB3 := Lib.hid hbel; clear hblk hbel)
              | (go_at_call 81; refine (same_bytes_at (arr_rec HK3.out) (Arr.keep (w := wz) (fun b hb => HB3.out.block b (show b < wz.heap.size by have := hS b hb; have := HW.out; omega)) (HA2.out.take 13)) (recOf_len _) HL.out).mono ?_; rintro e w4 ⟨rfl, ⟨m4, rfl⟩⟩))
            have HB4 : Hid (Below w.heap.size w (w3.drewN m4)) := Go.Bk.Below.drewN (HB2.out.trans (((Below.refl wz.heap.size wz).drew.trans HB3.out).mono (by have := HW.out; omega))) _
            have HO4 : Hid (Own (fun _ => False) (w3.drewN m4) w.heap.size 48 u4 acc) := (HO2.out.below ((Below.refl wz.heap.size wz).drew.trans HB3.out) (fun _ h => h.elim)).below (Go.Bk.Below.drewN (Below.refl _ _) m4) (fun _ h => h.elim)
            have HA4 : Hid (Arr S (w3.drewN m4) (some ⟨b, off, none⟩) rest) := Arr.keep (w := wz) (fun b hb => HB3.out.block b (show b < wz.heap.size by have := hS b hb; have := HW.out; omega)) HA2.out
            have hs3 : g < w3.heap.size := Nat.lt_of_lt_of_le hsz2 HB3.out.size
            clear HA2 HB2 HO2 HB3 g0 g1 hsz2 HK3
            obtain ⟨q, hq⟩ : ∃ q, rest.length / 13 = q + 1 := ⟨rest.length / 13 - 1, by have := HN.out; omega⟩
            have HR4 : Hid (readOf xs = if (oneOf (rest.take 13)).2 = 0 then readAll q (rest.drop 13) (acc ++ [(oneOf (rest.take 13)).1]) else ([], (oneOf (rest.take 13)).2)) := by
              show _ = _
              rw [HR'.out, hq]; rfl
            have hri := rec_is HL.out
            rw [HV.out] at hri
            have HRI := Lib.hid hri; have HQ := Lib.hid hq
            clear hri hq
            by_cases hrec : recOf ⟨K0, N0⟩ = rest.take 13
            · have hd : decide (recOf ⟨K0, N0⟩ = rest.take 13) = true := by simp [hrec]
              have HC := Lib.hid (HRI.out.1 hrec)
              have HX := Lib.hid hrec
              clear hrec
              rw [hd]
              clear hd
              have HE : Hid (oneOf (rest.take 13) = if rightOf ⟨K0, N0⟩ ≠ 0 then (⟨0, 0⟩, 3) else (⟨K0, N0⟩, 0)) := by
                show _ = _
                unfold oneOf
                rw [if_neg (by simp [HC.out]), HV.out]
              go_wp2_with fail
              refine (serr_kn K0 N0).mono ?_
              rintro e w5 ⟨rfl, hb5⟩
              have q0 : w5.cell? ⟨g, 0, none⟩ = some (.int .i64 K0) := (hb5.cell (p := ⟨g, 0, none⟩) (by simpa using hs3)).trans (by simpa using e0)
              have q1 : w5.cell? ⟨g, 1, none⟩ = some (.int .i64 N0) := (hb5.cell (p := ⟨g, 1, none⟩) (by simpa using hs3)).trans (by simpa using e1)
              have HB5 := Lib.hid (HB4.out.trans (hb5.mono (show w.heap.size ≤ w3.heap.size by have := HW.out; omega)))
              have HO5 := Lib.hid (HO4.out.below hb5 (fun _ h => h.elim))
              have HA5 : Hid (Arr S w5 (some ⟨b, off, none⟩) rest) := HA4.out.keep (fun b hb => hb5.block b (show b < w3.heap.size by have := hS b hb; have := HW.out; omega))
              have hs5 : g < w5.heap.size := Nat.lt_of_lt_of_le hs3 (by simpa using hb5.size)
              have hi : I64 K0 ∧ I64 N0 := HIK.out
              clear hb5 e0 e1 HB4 HO4 HA4 hs3
              by_cases hr : rightOf ⟨K0, N0⟩ = 0
              · have hee : (rightOf ⟨K0, N0⟩ != 0) = false := by simp [hr]
                rw [if_neg (by simp [hr])] at HE
                have HR5 : Hid (readOf xs = readAll q (rest.drop 13) (acc ++ [⟨K0, N0⟩])) := by show _ = _; rw [HR4.out, HE.out]; rfl
                clear hr
                have hinfo : (Try.prog.info? 48).map (fun i => (i.zero, i.size, i.bytes)) = some (some (.agg #[.int .i64 0, .int .i64 0]), Rep.sz Api.Val, 16) := Try.info48
                have hz2 : (Value.agg #[.int .i64 0, .int .i64 0]).cells.size = Rep.sz Api.Val := rfl
                have hp2 : 0 < Rep.sz Api.Val := by decide
                have hcell : Rep.cells (fun _ => False) w5 [.int .i64 K0, .int .i64 N0] (⟨K0, N0⟩ : Api.Val) := api_Val_cells_mk (x := ⟨K0, N0⟩) hi.1 hi.2
                have hown := HO5.out
                have hln : 13 * acc.length + n ≤ 4000 := by omega
                by_cases hc' : c = 13
                · go_wp2_with (with_reducible refine wp_append1' (α := Api.Val) (S := fun _ => False) (y := ⟨K0, N0⟩) rfl rfl Try.underlying34 hinfo hz2 hp2 rfl rfl rfl (by rfl) hown hcell (fun _ h => h.elim) (by unfold maxLen; omega) (by omega) (by have := HW.out; omega) fun v' w' hown' hg' => ?_)
                  have HN' := Lib.hid hown'
                  have HB' := Lib.hid (HB5.out.grown hg' (by have := HW.out; omega) (fun k hk => (HO5.out.lt k hk).1))
                  have HA' : Hid (Arr S w' (some ⟨b, off, none⟩) rest) := HA5.out.keep (fun b hb => hg'.block b (by have := hS b hb; have := HW.out; omega) (fun he => absurd (HO5.out.lt b he.symm).1 (by have := hS b hb; omega)))
                  clear hown' hg' hown hcell
                  go_roundw
                  case rel => exact ⟨rest.drop 13, acc ++ [⟨K0, N0⟩], _, n - 13, _, by have := HN.out; simp; omega, by simp; omega, by omega, rfl, by rw [List.drop_eq_nil_of_le (by have := HN.out; omega)]; exact Arr.nil _ _ _, HN'.out, by rw [HR5.out]; congr 1; have := HQ.out; simp; omega, HB'.out⟩
                  case measure => simp; omega
                · go_wp2_with (with_reducible refine wp_append1' (α := Api.Val) (S := fun _ => False) (y := ⟨K0, N0⟩) rfl rfl Try.underlying34 hinfo hz2 hp2 rfl rfl rfl (by rfl) hown hcell (fun _ h => h.elim) (by unfold maxLen; omega) (by omega) (by have := HW.out; omega) fun v' w' hown' hg' => ?_)
                  have HN' := Lib.hid hown'
                  have HB' := Lib.hid (HB5.out.grown hg' (by have := HW.out; omega) (fun k hk => (HO5.out.lt k hk).1))
                  have HA' : Hid (Arr S w' (some ⟨b, off, none⟩) rest) := HA5.out.keep (fun b hb => hg'.block b (by have := hS b hb; have := HW.out; omega) (fun he => absurd (HO5.out.lt b he.symm).1 (by have := hS b hb; omega)))
                  clear hown' hg' hown hcell
                  go_roundw
                  case rel => exact ⟨rest.drop 13, acc ++ [⟨K0, N0⟩], _, n - 13, _, by have := HN.out; simp; omega, by simp; omega, by omega, rfl, by simpa [show Rep.sz UInt8 = 1 from rfl] using HA'.out.tail_at 13 b off rfl hSb, HN'.out, by rw [HR5.out]; congr 1; have := HQ.out; simp; omega, HB'.out⟩
                  case measure => simp; omega
              · have hee : (rightOf ⟨K0, N0⟩ != 0) = true := by simp [hr]
                rw [if_pos hr] at HE
                clear hr
                go_wp2
                go_ret2
                have HE : readOf xs = ([], 3) := by rw [HR4.out, HE.out]; rfl
                exact ⟨⟨none, 0, by rw [HE]; rfl, by rw [HE]; exact Arr.nil _ _ _⟩, HB5.out⟩
            · have hd : decide (recOf ⟨K0, N0⟩ = rest.take 13) = false := by simp [hrec]
              have HC := Lib.hid (fun h => hrec (HRI.out.2 h))
              rw [hd]
              clear hd hrec e0 e1
              go_wp2
              go_ret2
              have HE : readOf xs = ([], 11) := by rw [HR4.out]; unfold oneOf; rw [if_pos HC.out]; rfl
              exact ⟨⟨none, 0, by rw [HE]; rfl, by rw [HE]; exact Arr.nil _ _ _⟩, HB4.out⟩
      · obtain ⟨av, cap, rfl, -, -, harr⟩ := HO.out.arr
        have HAR := Lib.hid harr
        have HE : readOf xs = (acc, 0) := by rw [HR'.out, show rest.length / 13 = 0 by have := HN.out; omega]; rfl
        have HEE := Lib.hid HE
        clear harr HE
        go_wp2
        go_ret2
        exact ⟨⟨av, cap, by rw [HEE.out]; rfl, by rw [HEE.out]; exact HAR.out.mono (fun b h => h.elim False.elim id)⟩, HB.out⟩
end Go.Proofs.Ytimlhjjdaggiiaa.spool
