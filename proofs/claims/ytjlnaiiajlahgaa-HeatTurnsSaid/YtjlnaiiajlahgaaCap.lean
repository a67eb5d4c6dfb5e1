/- General: the capacity of an argument that is a slice. No program is named here. -/
import Derived.Test.YtjlnaiiajlahgaaMore
set_option linter.unusedVariables false
set_option linter.unusedSimpArgs false
namespace Go.Bk
open Go.RowKit Go.ChangeShapes Go.WideShapes Go.Deep
theorem ArgRead.cap {P : Program} {W : World} {T E : TypeId} {a : Option Addr} {n c : Nat} (ht : P.underlying T = some (.slice E)) (h : ArgRead P W T (.slice a n c)) : c ≤ maxLen := by
  obtain ⟨H, enc, base, d, p, hv, ⟨k, hd⟩⟩ := h
  rcases open_slice ht hd with ⟨h1, _⟩ | ⟨a', len, cap, m, k2, D, Pl, h1, _, hl, hm, _⟩
  · simp [Value.cells] at h1
    obtain ⟨_, _, rfl⟩ := h1
    exact Nat.zero_le _
  · simp [Value.cells] at h1
    obtain ⟨_, _, rfl⟩ := h1
    exact hm
end Go.Bk
