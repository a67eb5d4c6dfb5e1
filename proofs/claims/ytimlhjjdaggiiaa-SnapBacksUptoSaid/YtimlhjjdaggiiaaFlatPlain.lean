/- Plain: a state as a flat list of numbers. -/
import Derived.Test.YtimlhjjdaggiiaaTy
set_option linter.unusedVariables false
set_option linter.unusedSimpArgs false
namespace Go.Proofs.Ytimlhjjdaggiiaa.flat
open Go.Bk Go.RowKit

def many {α : Type} (f : α → List Int) (l : List α) : List Int := (l.length : Int) :: (l.map f).flatten
def fVal (v : Api.Val) : List Int := [v.Kind, v.N]
def fTry (t : Api.Try) : List Int := [t.Reg, t.At]
def fFrame (f : Api.Frame) : List Int := [f.Fn, f.At, f.To, f.Gen] ++ (fVal f.Self ++ (many fVal f.Regs ++ many fTry f.Tries))
def fCell (c : Api.Cell) : List Int := [c.Kind, c.Num] ++ (many fVal c.Vals ++ many fFrame c.Frames)
def fShape (s : Api.Shape) : List Int := [s.Up, s.Name]
def fByte (b : UInt8) : List Int := [(b.toNat : Int)]
def fText (s : ByteArray) : List Int := many fByte s.data.toList
def fThread (t : Api.Thread) : List Int := many fFrame t.Frames ++ ([t.State, t.On] ++ fVal t.Val)
def fEnd (e : Api.End) : List Int := [e.Cell] ++ fVal e.Fn
def fState (s : Api.State) : List Int := many fCell s.Cells ++ (many fShape s.Shapes ++ (many fText s.Texts ++ (many fThread s.Threads ++ (many fEnd s.Ends ++ (many fVal s.Said ++ [s.Asked, s.Steps])))))
def manyTo {α : Type} (f : α → List Int) (l : List α) (q : Nat) : List Int := (l.length : Int) :: ((l.take q).map f).flatten
theorem manyTo_zero {α : Type} (f : α → List Int) (l : List α) : manyTo f l 0 = [(l.length : Int)] := by simp [manyTo]
theorem manyTo_succ {α : Type} {f : α → List Int} {l : List α} {q : Nat} {x : α} (h : l[q]? = some x) : manyTo f l (q + 1) = manyTo f l q ++ f x := by
  unfold manyTo
  rw [List.take_add_one, h, List.map_append, List.flatten_append]
  simp
theorem manyTo_all {α : Type} (f : α → List Int) (l : List α) : manyTo f l l.length = many f l := by simp [manyTo, many]
theorem manyTo_len {α : Type} (f : α → List Int) (l : List α) (q : Nat) : (manyTo f l q).length ≤ (many f l).length := by
  have h : ((l.take q).map f).flatten.length ≤ (l.map f).flatten.length := by
    conv => rhs; rw [← List.take_append_drop q l, List.map_append, List.flatten_append, List.length_append]
    omega
  unfold manyTo many
  simp only [List.length_cons]
  omega
/-- What one element adds. -/
theorem many_at {α : Type} {f : α → List Int} {l : List α} {q : Nat} {x : α} (h : l[q]? = some x) : (manyTo f l q).length + (f x).length ≤ (many f l).length := by
  have := manyTo_len f l (q + 1)
  rw [manyTo_succ h, List.length_append] at this
  exact this
theorem many_one {α : Type} (f : α → List Int) (l : List α) : 1 ≤ (many f l).length := by simp [many]
end Go.Proofs.Ytimlhjjdaggiiaa.flat
