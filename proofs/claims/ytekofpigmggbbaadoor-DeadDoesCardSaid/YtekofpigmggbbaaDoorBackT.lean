/- slices.Backward over a list of instructions: what it hands back, and its rounds. -/
import Derived.Test.YtekofpigmggbbaaDoorRange
import Derived.Test.YtekofpigmggbbaaDoorChkE
set_option linter.unusedVariables false
set_option linter.unusedSimpArgs false
namespace Go.Proofs.YtekofpigmggbbaaDoor.ded
open Go.Bk Go.RowKit Go.Shelf Go.Proofs.YtekofpigmggbbaaDoor.ir Go.Proofs.YtekofpigmggbbaaDoor.chk Go.Proofs.YtekofpigmggbbaaDoor.cut

attribute [local go_sem] Oper.semAt_some
abbrev insV (x : Api.TIns) : Value := .agg #[.int .i64 x.Op, .int .i64 x.A, .int .i64 x.B, .int .i64 x.C, .int .i64 x.N, .int .i64 x.Exit, .int .i64 x.K.Kind, .int .i64 x.K.N]

theorem back_any (w : World) (a : Option Addr) (n c : Nat) :
    Calls Tryd.prog 46 #[.slice a n c] w fun e w' => e = .returned (.func (.func 90) #[] #[.pointer (some ⟨w.heap.size, 0, none⟩)]) ∧ w' = w.alloc (.cells #[.slice a n c] 27) := by
  go_enter Tryd.func46, Tryd.ntmps46
  go_wp2
  go_ret
  exact ⟨rfl, rfl⟩

/-- An instruction of the list, with its number. -/
abbrev AtI (l : List Api.TIns) := { x : Nat × Api.TIns // l[x.1]? = some x.2 }

set_option maxRecDepth 100000 in
set_option maxHeartbeats 2000000 in
theorem back1_in (F : Fence) (N : Nat) (hf : F.fn 90) (hro : F.round = none) (hN : 1 ≤ N) (lp Bs n c : Nat) (a : Option Addr) (l : List Api.TIns) (hn : l.length = n) (hsm : n ≤ 9223372036854775807) {S : Nat → Prop} (J Jx : List (AtI l) → World → Prop)
    (hY : ∀ pre (x : AtI l) W, J pre W → pre.length < n → YieldAt F (N - 1) Tryd.prog lp #[.int .i64 (x.val.1 : Int), insV x.val.2] W fun e W' =>
      (e = .returned (.bool true) ∧ J (pre ++ [x]) W' ∧ Keeps (fun b => S b ∨ b = Bs) W W') ∨ (e = .returned (.bool false) ∧ Jx (pre ++ [x]) W'))
    (W : World) (hBs : W.cell? ⟨Bs, 0, none⟩ = some (.slice a n c)) (hA : Arr S W a l) (h0 : J [] W) :
    CallsIn F N Tryd.prog 90 #[.func (.yield lp) #[] #[], .pointer (some ⟨Bs, 0, none⟩)] W fun e W' => (∃ v, e = .returned v) ∧
      ((∃ ys, ys.map (fun x : AtI l => x.val) = upto (backOf l) n ∧ J ys W') ∨ (∃ pre, (∃ k, k ≤ n ∧ pre.map (fun x : AtI l => x.val) = upto (backOf l) k) ∧ Jx pre W')) := by
  refine callsIn_of_wp Tryd.func90 rfl hf ?_ hro
  simp only [Tryd.ntmps90, List.size_toArray, List.length_cons, List.length_nil, Nat.reduceAdd, Nat.reduceSub, Array.replicate_succ, Array.replicate_zero, List.push_toArray, List.append_toArray, List.nil_append, List.cons_append]
  have HN := Lib.hid hn
  clear hn
  gi_wp2
  gi_loopw [3] (fun i wr => ∃ k : Nat, k ≤ n ∧ i = .int .i64 ((n : Int) - 1 - k) ∧ (∃ ys, ys.map (fun x : AtI l => x.val) = upto (backOf l) k ∧ J ys wr) ∧ Keeps (fun b => S b ∨ b = Bs) W wr)
    (fun i _ => (intOf i + 1).toNat)
  case atStart => exact ⟨0, Nat.zero_le _, by simp, ⟨[], rfl, h0⟩, Keeps.refl _ _⟩
  case round =>
    obtain ⟨k, hk, rfl, ⟨ys, hys, hJs⟩, hnx⟩ := hrel
    have hb2 : wr.cell? ⟨Bs, 0, none⟩ = some (.slice a n c) := (World.cell?_of_block (w := W) (hnx Bs (.inr rfl))).trans hBs
    have HJS := Lib.hid hJs; have HNX := Lib.hid hnx; have HYS := Lib.hid hys
    have HAR : Hid (Arr S wr a l) := hA.keep (fun b hb => hnx b (.inl hb))
    by_cases hlt : k < n
    · obtain ⟨m, hm⟩ : ∃ m, m + 1 + k = n := ⟨n - 1 - k, by omega⟩
      have he : (n : Int) - 1 - k = (m : Int) := by omega
      have hmn : m < n := by omega
      obtain ⟨x, hx⟩ : ∃ x, l[m]? = some x := ⟨_, List.getElem?_eq_getElem (by have := HN.out; omega)⟩
      have HBO : Hid (backOf l k = (m, x)) := backOf_at HN.out hm hx
      have hyl : ys.length < n := by
        have h := congrArg List.length hys
        rw [List.length_map, upto_length] at h
        omega
      have HYN : Hid ((ys ++ [(⟨(m, x), hx⟩ : AtI l)]).map (fun x : AtI l => x.val) = upto (backOf l) (k + 1)) := by
        show _ = _
        rw [List.map_append, hys, upto_succ, HBO.out]
        rfl
      obtain ⟨fn, tmps, assign, body, hy, hR⟩ := hY _ (⟨(m, x), hx⟩ : AtI l) wr hJs hyl
      dsimp only at hy
      have HR := Lib.hid hR
      obtain ⟨b1, o1, rfl, -, q0, q1, q2, q3, q4, q5, q6, q7, -⟩ := api_TIns_elem HAR.out hx
      rw [he]
      clear he hJs hnx hR hA hys
      gi_wp2
      refine HR.out.mono ?_
      rintro e W3 (⟨rfl, hJ3, hk3⟩ | ⟨rfl, hJx3⟩)
      · have HJ3 := Lib.hid hJ3; have HK3 := Lib.hid hk3
        clear hJ3 hk3
        gi_wp2
        go_roundw
        case rel => exact ⟨k + 1, by omega, by first | (congr 1; done) | (congr 1; omega), ⟨_, HYN.out, HJ3.out⟩, HNX.out.trans HK3.out⟩
        case measure => simp [intOf] <;> omega
      · have HJX := Lib.hid hJx3
        clear hJx3
        gi_wp2
        refine bodyPost_ret (results_none rfl _ _ _) rfl ?_
        exact ⟨⟨_, rfl⟩, .inr ⟨_, ⟨k + 1, by omega, HYN.out⟩, HJX.out⟩⟩
    · obtain rfl : k = n := by omega
      rw [show (k : Int) - 1 - k = -1 by omega]
      clear hJs hnx hA hys
      gi_wp2
      go_end0
      exact ⟨⟨_, rfl⟩, .inl ⟨_, HYS.out, HJS.out⟩⟩

/-- The loop over it, as the law of loops wants it. -/
theorem back_stops (F : Fence) (N : Nat) (hf : F.fn 90) (hro : F.round = none) (hN : 1 ≤ N) (Bs n c : Nat) (a : Option Addr) (l : List Api.TIns) (hn : l.length = n) (hsm : n ≤ 9223372036854775807) {S : Nat → Prop} (w : World) (hS : ∀ b, S b → b < w.heap.size) (hBs : w.cell? ⟨Bs, 0, none⟩ = some (.slice a n c)) (hB0 : Bs < w.heap.size) (hA : Arr S w a l) :
    SeqStopsK F N Tryd.prog 90 #[.pointer (some ⟨Bs, 0, none⟩)] (fun x : AtI l => #[.int .i64 (x.val.1 : Int), insV x.val.2]) (Keeps (fun b => S b ∨ b = Bs)) (fun ys => ys.map (fun x : AtI l => x.val) = upto (backOf l) n) (fun pre => ∃ k, k ≤ n ∧ pre.map (fun x : AtI l => x.val) = upto (backOf l) k) n w := fun lp J Jx W hW _ _ hY h0 =>
  back1_in F N hf hro hN lp Bs n c a l hn hsm J Jx hY W ((hW.cell (p := ⟨Bs, 0, none⟩) hB0).trans hBs) (hA.keep (fun b hb => hW.block b (hS b hb))) h0
end Go.Proofs.YtekofpigmggbbaaDoor.ded
