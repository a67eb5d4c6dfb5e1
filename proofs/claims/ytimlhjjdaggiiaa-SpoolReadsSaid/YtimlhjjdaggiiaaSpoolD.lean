/- Read, walked: the values of all records. -/
import Derived.Test.YtimlhjjdaggiiaaSpoolC
set_option linter.unusedVariables false
set_option linter.unusedSimpArgs false
namespace Go.Proofs.Ytimlhjjdaggiiaa.spool
open Go.Bk Go.RowKit

/-- What k records tell, behind what was told. -/
def readAll : Nat → List UInt8 → List Api.Val → List Api.Val × Int
  | 0, _, acc => (acc, 0)
  | k + 1, bs, acc => if (oneOf (bs.take 13)).2 = 0 then readAll k (bs.drop 13) (acc ++ [(oneOf (bs.take 13)).1]) else ([], (oneOf (bs.take 13)).2)
def readOf (bs : List UInt8) : List Api.Val × Int := if 4000 < bs.length then ([], 2) else readAll (bs.length / 13) bs []

theorem oneOf_i64 (r : List UInt8) : I64 (oneOf r).1.Kind ∧ I64 (oneOf r).1.N := by
  unfold oneOf
  split
  · exact ⟨by unfold I64; simp, by unfold I64; simp⟩
  · split
    · exact ⟨by unfold I64; simp, by unfold I64; simp⟩
    · have := (r.headD 0).toNat_lt
      refine ⟨by unfold I64 valOf; simp only; omega, ?_⟩
      show I64 (IntKind.i64.wrap _)
      rw [IntWalk.i64_left]
      unfold I64 wrap64
      omega

def readRel (w : World) (bs : List UInt8) (at_ out : Value) (w' : World) : Prop :=
  ∃ (k : Nat) (acc : List Api.Val), 13 * k ≤ bs.length ∧ acc.length = k ∧ at_ = .int .i64 ((13 * k : Nat) : Int) ∧ Own (fun _ => False) w' w.heap.size 48 out acc ∧ readOf bs = readAll (bs.length / 13 - k) (bs.drop (13 * k)) acc ∧ Below w.heap.size w w'

set_option maxRecDepth 100000 in
set_option maxHeartbeats 1000000 in
theorem read_any {S : Nat → Prop} {w : World} {a : Option Addr} {c : Nat} {xs : List UInt8} (h : Arr S w a xs) (hc : xs.length ≤ c) (hS : ∀ b, S b → b < w.heap.size) :
    Calls Try.prog 26 #[.slice a xs.length c] w fun e w' =>
      (∃ a' c', e = .returned (.tuple #[.slice a' (readOf xs).1.length c', .int .i64 ((13 * (readOf xs).1.length : Nat) : Int), .int .i64 (readOf xs).2]) ∧ Arr (Fresh w w') w' a' (readOf xs).1) ∧ Below w.heap.size w w' := by
  have hm := h.small
  unfold maxLen at hm
  by_cases hl : 4000 < xs.length
  · have HE : Hid (readOf xs = ([], 2)) := if_pos hl
    go_enter Try.func26, Try.ntmps26
    go_wp2
    refine bodyPost_ret (v := .tuple #[.slice none 0 0, .int .i64 0, .int .i64 2]) (by simp [results, Try.results26, go_sem]) rfl ⟨⟨none, 0, by rw [HE.out]; rfl, by rw [HE.out]; exact Arr.nil _ _ _⟩, Below.refl _ _⟩
  · have HR : Hid (readOf xs = readAll (xs.length / 13) xs []) := if_neg hl
    have HL := Lib.hid hl
    go_enter Try.func26, Try.ntmps26
    go_wp2
    go_loopw [6, 5] (readRel w xs) (fun i _ _ => xs.length - (intOf i).toNat)
    case atStart => exact ⟨0, [], by omega, rfl, rfl, Own.nil _ _ _ _, by rw [HR.out]; simp, Below.refl _ _⟩
    case round =>
      obtain ⟨k, acc, hk, hal, rfl, ho, hr, hb⟩ := hrel
      have HO := Lib.hid ho; have HK := Lib.hid hr; have HB := Lib.hid hb
      have h' := h.keep (w' := wr) (fun b hb' => hb.block b (hS b hb'))
      have hsz := hb.size
      clear ho hr hb h
      by_cases hlt : 13 * k + 13 ≤ xs.length
      · obtain ⟨y, hy⟩ : ∃ y, xs[0]? = some y := ⟨_, List.getElem?_eq_getElem (by omega)⟩
        obtain ⟨b, off, rfl, hSb, -⟩ := arr_byte h' hy
        have hbl := hS b hSb
        have h13 : Arr S wr (some ⟨b, off + 13 * k, none⟩) ((xs.drop (13 * k)).take 13) := (show Arr S wr (some ⟨b, off + 13 * k, none⟩) (xs.drop (13 * k)) from by simpa [show Rep.sz UInt8 = 1 from rfl] using h'.tail_at (13 * k) b off rfl hSb).take 13
        have l13 : ((xs.drop (13 * k)).take 13).length = 13 := by simp; omega
        have hcc : 13 ≤ c - 13 * k := by omega
        have hne : ¬ c = 13 * k := by omega
        have hc2 : ((13 * k : Nat) : Int) + 13 ≤ c := by omega
        have hl2 : ((13 * k : Nat) : Int) + 13 ≤ xs.length := by omega
        have HR2 : Hid (readOf xs = if (oneOf ((xs.drop (13 * k)).take 13)).2 = 0 then readAll (xs.length / 13 - (k + 1)) (xs.drop (13 * (k + 1))) (acc ++ [(oneOf ((xs.drop (13 * k)).take 13)).1]) else ([], (oneOf ((xs.drop (13 * k)).take 13)).2)) := by
          show readOf xs = _
          rw [HK.out, show xs.length / 13 - k = (xs.length / 13 - (k + 1)) + 1 by omega, readAll, List.drop_drop, show 13 * k + 13 = 13 * (k + 1) by omega]
        clear h' hy
        generalize hq : 13 * k = q at *
        go_wp2_with fail
        refine Calls.mono (one_any h13 l13 hcc (by omega) (fun b hb => by have := hS b hb; omega) hSb) ?_
        rintro e w1 ⟨rfl, hb1⟩
        have HB1 := Lib.hid (HB.out.trans (hb1.mono hsz))
        have HO1 := Lib.hid (HO.out.below hb1 (fun b h => h.elim))
        have hs1 := hb1.size
        clear hb1 h13
        have hi := oneOf_i64 ((xs.drop q).take 13)
        generalize oneOf ((xs.drop q).take 13) = r at HR2 hi ⊢
        obtain ⟨⟨K, N⟩, E⟩ := r
        dsimp only at HR2 hi ⊢
        obtain ⟨hi1, hi2⟩ := hi
        by_cases hE : E = 0
        · subst hE
          have hinfo : (Try.prog.info? 48).map (fun i => (i.zero, i.size, i.bytes)) = some (some (.agg #[.int .i64 0, .int .i64 0]), Rep.sz Api.Val, 16) := Try.info48
          have hz2 : (Value.agg #[.int .i64 0, .int .i64 0]).cells.size = Rep.sz Api.Val := rfl
          have hp2 : 0 < Rep.sz Api.Val := by decide
          have hcell : Rep.cells (fun _ => False) (w1.alloc (.cells #[.int .i64 K, .int .i64 N] 48)) [.int .i64 K, .int .i64 N] (⟨K, N⟩ : Api.Val) := api_Val_cells_mk (x := ⟨K, N⟩) hi1 hi2
          have hown := HO1.out.alloc (.cells #[.int .i64 K, .int .i64 N] 48) (fun b h => h.elim)
          go_wp2_with (with_reducible refine wp_append1' (α := Api.Val) (S := fun _ => False) (y := ⟨K, N⟩) rfl rfl Try.underlying34 hinfo hz2 hp2 rfl rfl rfl ?hg hown hcell (fun _ h => h.elim) ?h1 ?h2 ?h3 fun v' w' hown' hg' => ?_)
          case h1 => unfold maxLen; omega
          case h2 => omega
          case h3 => omega
          have HN := Lib.hid hown'
          have HB' := Lib.hid ((HB1.out.alloc (by omega) _).grown hg' (by simp; omega) (fun k hk => (HO1.out.lt k hk).1))
          clear hown' hg' hown hcell
          go_roundw
          case rel => exact ⟨k + 1, acc ++ [⟨K, N⟩], by omega, by simp [hal], by rw [show 13 * (k + 1) = q + 13 by omega]; go_num, HN.out, by rw [HR2.out, if_pos rfl], HB'.out⟩
          case measure => simp [intOf]; omega
        · have hee : (E != 0) = true := by simp [hE]
          have HE : Hid (readOf xs = ([], E)) := by
            show readOf xs = _
            rw [HR2.out, if_neg hE]
          clear hE
          go_wp2
          refine bodyPost_ret (v := .tuple #[.slice none 0 0, .int .i64 0, .int .i64 E]) (by simp [results, Try.results26, go_sem]) rfl ⟨⟨none, 0, by rw [HE.out]; rfl, by rw [HE.out]; exact Arr.nil _ _ _⟩, ?_⟩
          exact (HB1.out.alloc (by omega) _)
      · obtain ⟨av, cap, rfl, -, -, harr⟩ := HO.out.arr
        have HA := Lib.hid harr
        have hal' : (acc.length : Int) = k := by omega
        have HE : Hid (readOf xs = (acc, 0)) := by
          show readOf xs = _
          rw [HK.out, show xs.length / 13 - k = 0 by omega]; rfl
        clear harr h'
        go_wp2
        refine bodyPost_ret (v := .tuple #[.slice av acc.length cap, .int .i64 ((13 * acc.length : Nat) : Int), .int .i64 0]) (by simp [results, Try.results26, go_sem, hal]) rfl ⟨⟨av, cap, by rw [HE.out], by rw [HE.out]; exact HA.out.mono (fun b h => h.elim False.elim id)⟩, HB.out⟩
end Go.Proofs.Ytimlhjjdaggiiaa.spool
