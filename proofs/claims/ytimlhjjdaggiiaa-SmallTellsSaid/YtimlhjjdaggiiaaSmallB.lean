/- The law's own question: it counts, it spoils what it is handed, it answers. -/
import Derived.Test.YtimlhjjdaggiiaaSmallA
set_option linter.unusedVariables false
set_option linter.unusedSimpArgs false
namespace Go.Proofs.Ytimlhjjdaggiiaa.small
open Go.Bk Go.RowKit

/-- Below block B nothing is turned but block g. -/
structure Only (B g : Nat) (w w' : World) : Prop where
  os : w'.os = w.os
  tape : w'.tape = w.tape
  output : w'.output = w.output
  size : w.heap.size ≤ w'.heap.size
  block : ∀ b, b < B → b ≠ g → w'.heap[b]? = w.heap[b]?
theorem Only.refl (B g : Nat) (w : World) : Only B g w w := ⟨rfl, rfl, rfl, Nat.le_refl _, fun _ _ _ => rfl⟩
theorem Only.trans {B g : Nat} {a b c : World} (h : Only B g a b) (h' : Only B g b c) : Only B g a c := ⟨h'.os.trans h.os, h'.tape.trans h.tape, h'.output.trans h.output, Nat.le_trans h.size h'.size, fun k hk hn => (h'.block k hk hn).trans (h.block k hk hn)⟩
theorem Only.mono {B B' g : Nat} {a b : World} (h : Only B g a b) (hB : B' ≤ B) : Only B' g a b := ⟨h.os, h.tape, h.output, h.size, fun k hk hn => h.block k (Nat.lt_of_lt_of_le hk hB) hn⟩
theorem Only.of_below {B g : Nat} {a b : World} (h : Below B a b) : Only B g a b := ⟨h.os, h.tape, h.output, h.size, fun k hk _ => h.block k hk⟩
theorem Only.set {B g : Nat} {a b : World} (h : Only B g a b) {k j : Nat} (hk : k = g ∨ B ≤ k) (v : Value) : Only B g a (b.setCell ⟨k, j, none⟩ v) :=
  ⟨h.os, h.tape, h.output, by simpa [World.setCell] using h.size, fun i hi hn => by
    rw [← h.block i hi hn]
    simp only [World.setCell]
    rw [Array.getElem?_modify, if_neg (by omega)]⟩

def seven (xs : List Int) (k : Nat) : List Int := List.replicate k (-7) ++ xs.drop k
theorem seven_set {xs : List Int} {k : Nat} (h : k < xs.length) : (seven xs k).set k (-7) = seven xs (k + 1) := by
  unfold seven
  rw [List.set_append_right _ _ (by simp), List.length_replicate, Nat.sub_self, List.drop_eq_getElem_cons h, List.set_cons_zero, List.replicate_succ', List.append_assoc]
  rfl
theorem seven_len {xs : List Int} {k : Nat} (h : k ≤ xs.length) : (seven xs k).length = xs.length := by simp [seven]; omega
theorem seven_get {xs : List Int} {k : Nat} (h : k < xs.length) : (seven xs k)[k]? = some xs[k] := by
  unfold seven
  rw [List.getElem?_append_right (by simp), List.length_replicate, Nat.sub_self, List.getElem?_drop]
  simp [h]

def askRel (w : World) (B ga : Nat) (v : Value) (xs : List Int) (n : Int) (i : Value) (w' : World) : Prop :=
  ∃ k : Nat, k ≤ xs.length ∧ i = .int .i64 k ∧ Own (fun _ => False) w' B 3 v (seven xs k) ∧ Blk w' ga 3 [.int .i64 n] ∧ Only B ga w w'

set_option maxRecDepth 100000 in
set_option maxHeartbeats 1000000 in
theorem holds_any {w : World} {v : Value} {B ga gn : Nat} {xs : List Int} {n : Nat} {nv : Bool} (h : Own (fun _ => False) w B 3 v xs) (hga : Blk w ga 3 [.int .i64 n]) (hgn : Blk w gn 4 [.bool nv]) (ha : ga < B) (hn : gn < B) (hne : gn ≠ ga) (hb : n < 1000000000) (hl : xs.length ≤ 200) :
    Calls Try.prog 50 (#[v] ++ #[.pointer (some ⟨ga, 0, none⟩), .pointer (some ⟨gn, 0, none⟩)]) w fun e w' => e = .returned (.bool (!nv)) ∧ Blk w' ga 3 [.int .i64 ((n + 1 : Nat) : Int)] ∧ Only B ga w w' := by
  obtain ⟨a, c, rfl, hc, hnil, -⟩ := h.arr
  have c1 : w.cell? ⟨ga, 0, none⟩ = some (.int .i64 n) := hga.cell rfl
  have f1 : w.frozen? ⟨ga, 0, none⟩ = false := hga.frozen 0
  have hw : IntKind.i64.wrap ((n : Int) + 1) = ((n + 1 : Nat) : Int) := by rw [IntWalk.i64_in _ (by omega)]; omega
  have HO : Hid (Own (fun _ => False) (w.setCell ⟨ga, 0, none⟩ (.int .i64 ((n + 1 : Nat) : Int))) B 3 (.slice a xs.length c) (seven xs 0)) := by
    show Own _ _ _ _ _ _
    have e0 : seven xs 0 = xs := by simp [seven]
    rw [e0]
    exact own_set h ha
  have HG : Hid (Blk (w.setCell ⟨ga, 0, none⟩ (.int .i64 ((n + 1 : Nat) : Int))) ga 3 [.int .i64 ((n + 1 : Nat) : Int)]) := hga.set 0 _
  have HY : Hid (Only B ga w (w.setCell ⟨ga, 0, none⟩ (.int .i64 ((n + 1 : Nat) : Int)))) := (Only.refl _ _ _).set (.inl rfl) _
  have HN := Lib.hid hgn
  obtain ⟨m, hm⟩ : ∃ m, m = xs.length := ⟨_, rfl⟩
  rw [← hm] at hl HO hc; rw [← hm]
  have HM := Lib.hid hm
  clear h hga hgn hm
  show Calls Try.prog _ #[_, _, _] w _
  go_enter Try.func50, Try.ntmps50
  go_wp2
  clear c1 f1
  go_loopw [5] (askRel w B ga (.slice a m c) xs ((n + 1 : Nat) : Int)) (fun i _ => m - (intOf i).toNat)
  case atStart => exact ⟨0, Nat.zero_le _, rfl, HO.out, HG.out, HY.out⟩
  case round =>
    obtain ⟨k, hk, rfl, hown, hblk, hon⟩ := hrel
    rw [← HM.out] at hk
    have HO1 := Lib.hid hown; have HG1 := Lib.hid hblk; have HY1 := Lib.hid hon
    clear hown hblk hon HO HG HY
    by_cases hlt : k < m
    · have hkl : k < xs.length := by rw [← HM.out]; exact hlt
      obtain ⟨g, cap, cs, hv, hgB, hgs, -, hcs, hcell, hfr, hset⟩ := HO1.out.at (seven_get hkl)
      simp only [Value.slice.injEq] at hv
      obtain ⟨rfl, -, rfl⟩ := hv
      obtain ⟨rfl, hi⟩ := hcs
      have q1 : wr.cell? ⟨g, k, none⟩ = some (.int .i64 xs[k]) := by simpa [show Rep.sz Int = 1 from rfl] using hcell 0 Nat.zero_lt_one
      have q2 : wr.frozen? ⟨g, k, none⟩ = false := hfr k
      have hs := hset 0 (.int .i64 (-7)) (-7) Nat.zero_lt_one (fun _ h => h.elim) ⟨rfl, by unfold I64; omega⟩
      rw [seven_set hkl] at hs
      simp only [show Rep.sz Int = 1 from rfl, Nat.mul_one, Nat.add_zero] at hs
      have HS := Lib.hid hs
      clear hset hcell hfr hi hs
      go_wp2
      go_roundw
      case rel => exact ⟨k + 1, by rw [← HM.out]; omega, by go_num, HS.out, HG1.out.keep (by simp only [World.setCell]; rw [Array.getElem?_modify, if_neg (by omega)]), HY1.out.set (.inr hgB) _⟩
      case measure => simp [intOf] <;> omega
    · obtain rfl : k = m := by omega
      have c2 : wr.cell? ⟨gn, 0, none⟩ = some (.bool nv) := by
        have : Blk wr gn 4 [.bool nv] := HN.out.keep (HY1.out.block gn hn hne)
        exact this.cell rfl
      go_wp2
      go_ret
      exact ⟨rfl, HG1.out, HY1.out⟩
end Go.Proofs.Ytimlhjjdaggiiaa.small
