/- What one record tells; small contracts. -/
import Derived.Test.YtfdpannanpipdaaSpoolB
import Derived.Test.YtfdpannanpipdaaSpoolS
import Derived.Deep.RegionHeld3
set_option linter.unusedVariables false
set_option linter.unusedSimpArgs false
namespace Go.Proofs.Ytfdpannanpipdaa.spool
open Go.Bk Go.RowKit

/-- The value that a record tells. -/
def valOf (r : List UInt8) : Api.Val := ⟨((r.headD 0).toNat : Int), IntKind.i64.wrap (numOf ((r.take 9).drop 1) : Int)⟩
def oneOf (r : List UInt8) : Api.Val × Int :=
  if numOf (r.drop 9) ≠ sumOf (r.take 9) then (⟨0, 0⟩, 11) else if rightOf (valOf r) ≠ 0 then (⟨0, 0⟩, 3) else (valOf r, 0)

theorem below_cells {N : Nat} {w w' : World} (hb : Below N w w') : ∀ b o, b < N → w'.cell? ⟨b, o, none⟩ = w.cell? ⟨b, o, none⟩ := fun b o h => hb.cell (p := ⟨b, o, none⟩) h

theorem right_kn {w : World} (K N : Int) : Calls Try.prog 69 #[.agg #[.int .i64 K, .int .i64 N]] w fun e w' => e = .returned (.int .i64 (rightOf ⟨K, N⟩)) ∧ Below w.heap.size w w' := right_any (v := ⟨K, N⟩)

theorem cut_world {F : World → Prop} {W : World} (P : World → Prop) (hP : P W) (h : ∀ wz, P wz → F wz) : F W := h W hP

theorem sum_at {S : Nat → Prop} {w : World} {a : Option Addr} {c n : Nat} {xs : List UInt8} (h : Arr S w a xs) (hn : xs.length = n) :
    Calls Try.prog 72 #[.slice a n c] w fun e w' => e = .returned (.int .u32 (sumOf xs)) ∧ Quiet w w' := hn ▸ sum_any h

end Go.Proofs.Ytfdpannanpipdaa.spool
