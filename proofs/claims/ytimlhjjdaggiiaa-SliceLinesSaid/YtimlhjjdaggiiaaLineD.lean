/- Run of lines, walked. -/
import Derived.Test.YtimlhjjdaggiiaaLineC
set_option linter.unusedVariables false
set_option linter.unusedSimpArgs false
namespace Go.Proofs.Ytimlhjjdaggiiaa.line
open Go.Bk Go.RowKit

set_option maxRecDepth 100000 in
set_option maxHeartbeats 1000000 in
theorem run_any {S : Nat → Prop} {w : World} {a : Option Addr} {c : Nat} {l : List Api.DLet} {i : Int} (h : Arr S w a l) (hcap : l.length ≤ c) (hS : ∀ b, S b → b < w.heap.size) (hi : I64 i) :
    Calls Try.prog 52 #[.slice a l.length c, .int .i64 i] w fun e w' => e = .returned (.tuple #[.int .i64 (if errOf l i = 0 then runOf l i.toNat else 0), .int .i64 (errOf l i)]) ∧ Grow w w' := by
  have HR := Lib.hid (right_any (c := c) (i := i) h hS hi)
  by_cases he : errOf l i = 0
  case neg =>
    have hd : (errOf l i == 0) = false := by simpa using he
    have HE := Lib.hid he
    clear he
    go_enter Try.func52, Try.ntmps52
    go_wp2_with (with_reducible refine HR.out.mono ?_; rintro e w' ⟨rfl, hq⟩)
    go_ret2
    exact ⟨by first | rfl | (rw [if_neg HE.out]; rfl), hq⟩
  have hd : (errOf l i == 0) = true := by simpa using he
  obtain ⟨hlen, -, h0, h1⟩ := errOf_zero he
  have HE := Lib.hid he
  clear he
  obtain ⟨n, rfl⟩ : ∃ n : Nat, i = n := ⟨i.toNat, by omega⟩
  have hw : IntKind.i64.wrap ((n : Int) + 1) = ((n + 1 : Nat) : Int) := by rw [IntWalk.i64_in _ (by omega)]; omega
  go_enter Try.func52, Try.ntmps52
  have hmm := @run_makeMap Try.prog
  go_wp2_with (with_reducible refine HR.out.mono ?_; rintro e w1 ⟨rfl, hq⟩; rw [HE.out]; have HQ := Lib.hid hq; clear hq)
  clear hmm
  have HM0 : Hid (Vars (w1.alloc (.map #[] 0)) w1.heap.size 0 (env l 0)) := IMap.made _ _ _ _
  go_loopw [22] (fun v w' => ∃ k : Nat, k ≤ n + 1 ∧ v = .int .i64 k ∧ Vars w' w1.heap.size k (env l k) ∧ Below w1.heap.size w1 w') (fun v _ => n + 1 - (intOf v).toNat)
  case atStart => exact ⟨0, Nat.zero_le _, rfl, HM0.out, (Below.refl _ _).alloc (Nat.le_refl _) _⟩
  case round =>
    obtain ⟨k, hk, rfl, hv, hb⟩ := hrel
    have HV := Lib.hid hv
    have HBB := Lib.hid hb
    have HB := Lib.hid (HQ.out.trans (hb.mono HQ.out.size))
    have h' := h.keep (w' := wr) (fun b hb' => HB.out.block b (hS b hb'))
    clear hv hb
    by_cases hlt : k < n + 1
    · obtain ⟨x, hx⟩ : ∃ x, l[k]? = some x := ⟨_, List.getElem?_eq_getElem (by omega)⟩
      obtain ⟨b, off, rfl, -, q1, q2, q3, q4, g1, g2, g3, g4⟩ := api_DLet_elem h' hx
      have HX := Lib.hid hx
      clear h' hx h
      have hdk : decide ((k : Int) < (n : Int) + 1) = true := by simp; omega
      have HD := Lib.hid (do_any (HV.out.boxed (.cells #[.int .i64 x.To, .int .i64 x.Op, .int .i64 x.A, .int .i64 x.B] 112)) (by omega) g1 g2 g3 g4)
      go_wp2_with (with_reducible refine HD.out.mono ?_; rintro e w2 ⟨rfl, hv2, hg2⟩)
      go_roundw
      case rel =>
        refine ⟨k + 1, by omega, by go_num, hv2.congr (fun m => (env_succ HX.out m).symm), ?_⟩
        have hg3 := grown_box hg2
        exact ⟨hg3.os.trans HBB.out.os, hg3.tape.trans HBB.out.tape, hg3.output.trans HBB.out.output, Nat.le_trans HBB.out.size hg3.size, fun j hj => (hg3.block j (Nat.lt_of_lt_of_le hj HBB.out.size) (by intro e; injection e with e; omega)).trans (HBB.out.block j hj)⟩
      case measure => simp [intOf] <;> omega
    · obtain rfl : k = n + 1 := by omega
      have hdk : decide (((n + 1 : Nat) : Int) < (n : Int) + 1) = false := by simp
      obtain ⟨x, hx⟩ : ∃ x, l[n]? = some x := ⟨_, List.getElem?_eq_getElem (by omega)⟩
      obtain ⟨b, off, rfl, -, q1, q2, q3, q4, g1, g2, g3, g4⟩ := api_DLet_elem h' hx
      have HX : Hid ((env l (n + 1) x.To).getD 0 = runOf l n) := runOf_env hx
      clear h' hx h
      go_wp2_with (with_reducible refine wp_imap_get rfl rfl under_int under_int under_vars (zero_int _) rfl HV.out rfl g1 ?_)
      go_ret2
      exact ⟨by rw [← HX.out]; rfl, HB.out⟩
end Go.Proofs.Ytimlhjjdaggiiaa.line
