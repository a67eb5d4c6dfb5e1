/- ir.Check: walked. -/
import Derived.Test.YtekofpigmggbbaaDoorQIcE
import Derived.Test.YtekofpigmggbbaaDoorQMay
set_option linter.unusedVariables false
set_option linter.unusedSimpArgs false
namespace Go.Proofs.YtekofpigmggbbaaDoor.chk
open Go.Bk Go.RowKit Go.Proofs.YtekofpigmggbbaaDoor.ir

set_option maxRecDepth 100000 in
theorem icheck_bad {S : Nat → Prop} {w : World} {P T : Array Value} {p : Api.Prog} (hp : Rep.cells S w P.toList p) (hS : ∀ b, S b → b < w.heap.size) (hA : cod.Asc w) (hbad : cod.codeChk p ≠ 0) :
    Calls Tryd.prog 35 #[.agg P, .agg T] w fun e w' => e = .returned (.int .i64 (cod.codeChk p)) ∧ Below w.heap.size w w' := by
  obtain ⟨a0, nF, c0, hP⟩ := pin_of hp
  have hsP := hP.size
  obtain ⟨w2, hw2⟩ : ∃ w2, w2 = (w.alloc (.cells P 26)).alloc (.cells T 34) := ⟨_, rfl⟩
  obtain ⟨r1, r2, hb2, hz2⟩ := rows2 w P T _ _ w2 hw2
  have HRP := Lib.hid r1
  have hk : ∀ b, S b → w2.heap[b]? = w.heap[b]? := fun b hb' => hb2.block b (hS b hb')
  obtain ⟨c, hc⟩ : ∃ c, c = cod.codeChk p := ⟨_, rfl⟩
  rw [← hc] at hbad ⊢
  have HCC : Hid (Calls Tryd.prog 25 #[.agg P] w2 fun e w' => e = .returned (.int .i64 c) ∧ Below w.heap.size w w') := by
    rw [hc]
    exact (pcheck_any (Rep.keep hk hp) (fun b hb' => Nat.lt_of_lt_of_le (hS b hb') hb2.size) (hA.keep hb2)).mono fun e w' ⟨he, hb'⟩ => ⟨he, hb2.trans (hb'.mono hb2.size)⟩
  have e0 : (c != 0) = true := by simpa using hbad
  clear hp hS hA hP r1 r2 hb2 hz2 hk hc hbad
  go_enter Tryd.func35, Tryd.ntmps35
  go_upto_region 1 with fail
  rw [← hw2]
  clear hw2
  go_wp2_with (first
    | (with_reducible refine ldP rfl rfl rfl HRP.out hsP ?_)
    | (go_at_call 25; (with_reducible refine HCC.out.mono ?_); rintro e w3 ⟨rfl, hb3⟩; have HB3 := Lib.hid hb3; clear hb3))
  go_ret
  exact ⟨rfl, HB3.out⟩
end Go.Proofs.YtekofpigmggbbaaDoor.chk
