/- slices.Backward over a row of bytes that the rounds may write: what it hands back, and its rounds. -/
import Derived.Test.YtfdpannanpipdaaRange
import Derived.Test.YtfdpannanpipdaaSpoolRecPlain
set_option linter.unusedVariables false
set_option linter.unusedSimpArgs false
namespace Go.Proofs.Ytfdpannanpipdaa.spool
open Go.Bk Go.RowKit Go.Shelf

attribute [local go_sem] Oper.semAt_some

theorem backB_any (w : World) (a : Option Addr) (n c : Nat) :
    Calls Try.prog 111 #[.slice a n c] w fun e w' => e = .returned (.func (.func 135) #[] #[.pointer (some ⟨w.heap.size, 0, none⟩)]) ∧ w' = w.alloc (.cells #[.slice a n c] 44) := by
  go_enter Try.func111, Try.ntmps111
  go_wp2
  go_ret
  exact ⟨rfl, rfl⟩

/-- The row is there, with its box. -/
def Shape (Bs b n c : Nat) (W : World) : Prop := ∃ bs : List UInt8, bs.length = n ∧ Blk W b 5 (bytesV bs) ∧ W.cell? ⟨Bs, 0, none⟩ = some (.slice (some ⟨b, 0, none⟩) n c) ∧ Blk W Bs 44 [.slice (some ⟨b, 0, none⟩) n c]
def ShapeK (Bs b n c : Nat) (W W' : World) : Prop := Shape Bs b n c W → Shape Bs b n c W'
theorem shapeK_t {Bs b n c : Nat} {A B C : World} (h : ShapeK Bs b n c A B) (k : ShapeK Bs b n c B C) : ShapeK Bs b n c A C := fun x => k (h x)
theorem Shape.kept {Bs b n c : Nat} {W W' : World} (h : Shape Bs b n c W) (hc : CellsKept W W') : Shape Bs b n c W' := by
  obtain ⟨bs, h1, h2, h3, h4⟩ := h
  exact ⟨bs, h1, hc _ _ _ h2, (hc _ _ _ h4).cell0, hc _ _ _ h4⟩
theorem shapeK_b {Bs b n c : Nat} (W : World) (l : Nat) (o o' : Obj) (hl : W.heap[l]? = some o) (hc : o.isCells = false) : ShapeK Bs b n c W (W.putObj l o') := fun h =>
  h.kept (cellsKept_of (grownBy_putObj' W l o') (fun r e => by cases e; exact ⟨o, hl, hc⟩))

set_option maxRecDepth 100000 in
set_option maxHeartbeats 2000000 in
theorem backB1_in (F : Fence) (N : Nat) (hf : F.fn 135) (hro : F.round = none) (hN : 1 ≤ N) (lp Bs b n c : Nat) (hsm : n ≤ 1000) (J Jx : List (Fin n × UInt8) → World → Prop)
    (hY : ∀ pre x W, J pre W → pre.length < n → YieldAt F (N - 1) Try.prog lp #[.int .i64 (x.1.val : Int), .int .u8 x.2.toNat] W fun e W' =>
      (e = .returned (.bool true) ∧ J (pre ++ [x]) W' ∧ ShapeK Bs b n c W W') ∨ (e = .returned (.bool false) ∧ Jx (pre ++ [x]) W'))
    (W : World) (hsh : Shape Bs b n c W) (h0 : J [] W) :
    CallsIn F N Try.prog 135 #[.func (.yield lp) #[] #[], .pointer (some ⟨Bs, 0, none⟩)] W fun e W' => (∃ v, e = .returned v) ∧
      ((∃ ys : List (Fin n × UInt8), ys.map (fun x => x.1.val) = upto (fun j => n - 1 - j) n ∧ J ys W') ∨ (∃ pre, True ∧ Jx pre W')) := by
  refine callsIn_of_wp Try.func135 rfl hf ?_ hro
  simp only [Try.ntmps135, List.size_toArray, List.length_cons, List.length_nil, Nat.reduceAdd, Nat.reduceSub, Array.replicate_succ, Array.replicate_zero, List.push_toArray, List.append_toArray, List.nil_append, List.cons_append]
  have hb0 : W.cell? ⟨Bs, 0, none⟩ = some (.slice (some ⟨b, 0, none⟩) n c) := by obtain ⟨_, _, _, h, _⟩ := hsh; exact h
  gi_wp2
  gi_loopw [3] (fun i wr => ∃ ys : List (Fin n × UInt8), ys.length ≤ n ∧ i = .int .i64 ((n : Int) - 1 - ys.length) ∧ ys.map (fun x => x.1.val) = upto (fun j => n - 1 - j) ys.length ∧ J ys wr ∧ Shape Bs b n c wr)
    (fun i _ => (intOf i + 1).toNat)
  case atStart => exact ⟨[], Nat.zero_le _, by simp, by simp [upto], h0, hsh⟩
  case round =>
    obtain ⟨ys, hk, rfl, hys, hJs, hshr⟩ := hrel
    obtain ⟨k, hkk⟩ : ∃ k, k = ys.length := ⟨_, rfl⟩
    rw [← hkk] at hk hys ⊢
    have HKK := Lib.hid hkk
    have HYS := Lib.hid hys
    have HSH := Lib.hid hshr
    obtain ⟨bs, hbl, hblk, hb2, -⟩ := hshr
    clear hkk hys
    by_cases hlt : k < n
    · obtain ⟨m, hm⟩ : ∃ m, m + 1 + k = n := ⟨n - 1 - k, by omega⟩
      have he : (n : Int) - 1 - k = (m : Int) := by omega
      have hmn : m < n := by omega
      obtain ⟨u, hu⟩ : ∃ u : UInt8, bs[m]? = some u := ⟨_, List.getElem?_eq_getElem (by omega)⟩
      have q0 : wr.cell? ⟨b, m, none⟩ = some (.int .u8 u.toNat) := hblk.cell (by simp [bytesV, hu])
      obtain ⟨fn, tmps, assign, body, hy, hR⟩ := hY ys (⟨m, hmn⟩, u) wr hJs (by rw [← HKK.out]; exact hlt)
      dsimp only at hy
      have HR := Lib.hid hR
      have HBL := Lib.hid hbl
      rw [he]
      clear he hJs hR hblk hu hb0 hbl
      gi_wp2
      refine HR.out.mono ?_
      rintro e W3 (⟨rfl, hJ3, hk3⟩ | ⟨rfl, hJx3⟩)
      · have HJ3 := Lib.hid hJ3; have HS3 := Lib.hid (hk3 HSH.out)
        clear hJ3 hk3
        gi_wp2
        go_roundw
        case rel => exact ⟨ys ++ [(⟨m, hmn⟩, u)], by simp [← HKK.out]; omega, by simp [← HKK.out] <;> omega, by rw [List.map_append, HYS.out, List.length_append, ← HKK.out]; show _ = upto _ (k + 1); rw [upto_succ]; simp; omega, HJ3.out, HS3.out⟩
        case measure => simp [intOf] <;> omega
      · have HJX := Lib.hid hJx3
        clear hJx3
        gi_wp2
        refine bodyPost_ret (results_none rfl _ _ _) rfl ?_
        exact ⟨⟨_, rfl⟩, .inr ⟨_, trivial, HJX.out⟩⟩
    · obtain rfl : k = n := by omega
      rw [show (k : Int) - 1 - k = -1 by omega]
      have HJ := Lib.hid hJs
      clear hJs hblk hb0
      gi_wp2
      go_end0
      exact ⟨⟨_, rfl⟩, .inl ⟨ys, HYS.out, HJ.out⟩⟩
theorem backB_stops (F : Fence) (N : Nat) (hf : F.fn 135) (hro : F.round = none) (hN : 1 ≤ N) (Bs b n c : Nat) (hsm : n ≤ 1000) (w : World) (hsh : Shape Bs b n c w) :
    SeqStopsK F N Try.prog 135 #[.pointer (some ⟨Bs, 0, none⟩)] (fun x : Fin n × UInt8 => #[.int .i64 (x.1.val : Int), .int .u8 x.2.toNat]) (ShapeK Bs b n c) (fun ys => ys.map (fun x => x.1.val) = upto (fun j => n - 1 - j) n) (fun _ => True) n w := fun lp J Jx W hW _ _ hY h0 =>
  backB1_in F N hf hro hN lp Bs b n c hsm J Jx hY W (hsh.kept (fun k e cs h => h.below hW h.lt)) h0
end Go.Proofs.Ytfdpannanpipdaa.spool
