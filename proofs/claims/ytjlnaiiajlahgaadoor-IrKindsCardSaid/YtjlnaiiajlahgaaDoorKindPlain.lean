/- Plain: the kind of a value, as it is known at a place. -/
import Derived.Test.YtjlnaiiajlahgaaDoorChkPlain
set_option linter.unusedVariables false
set_option linter.unusedSimpArgs false
namespace Go.Proofs.YtjlnaiiajlahgaaDoor.chk
open Go.Bk Go.Proofs.YtjlnaiiajlahgaaDoor.ir

/-- What an instruction tells of v. -/
def lookK (v : Int) (y : Api.TIns) : Option Int := if y.A = v then (if y.Op = 4 then some y.N else if y.Op = 6 then some y.K.Kind else if y.Op = 9 then some 5 else none) else none
def atK (ins : List Api.TIns) (v : Int) (i : Nat) : Option Int := match ins[i]? with
  | some y => lookK v y
  | none => none
/-- The first that tells, of n from i on. -/
def upK (ins : List Api.TIns) (v : Int) : Nat → Nat → Option Int
  | _, 0 => none
  | i, n + 1 => match atK ins v i with
    | some k => some k
    | none => upK ins v (i + 1) n
/-- The kind that an instruction's own operation tells. -/
def ownK (r : Int) (x : Api.TIns) : Int :=
  if x.Op = 2 then x.K.Kind
  else if x.Op = 15 then 2
  else if x.Op = 16 ∨ x.Op = 18 then 5
  else if x.Op = 7 ∨ x.Op = 8 then
    if (8 ≤ x.N ∧ x.N ≤ 10 ∧ x.Op = 7) ∨ (x.N = 11 ∧ x.Op = 8) then 1
    else if r = 2 ∨ r = 3 then r
    else -1
  else -1
/-- The kind; 'df': what is told where nothing tells. -/
def kindG (ins : List Api.TIns) (df : Int → Int) : Nat → Int → Int → Int
  | 0, _, _ => -1
  | n + 1, v, at' =>
    if v < 0 ∨ at' ≤ v ∨ (ins.length : Int) < at' then -1
    else match ins[v.toNat]? with
      | none => -1
      | some x =>
        if tellsOf x.Op = false then -1
        else if 0 ≤ ownK (kindG ins df n x.A v) x then ownK (kindG ins df n x.A v) x
        else match upK ins v (v.toNat + 1) (at'.toNat - (v.toNat + 1)) with
          | some k => k
          | none => df (ownK (kindG ins df n x.A v) x)
theorem kindG_bad {ins : List Api.TIns} {df : Int → Int} {n : Nat} {v at' : Int} (h : v < 0 ∨ at' ≤ v ∨ (ins.length : Int) < at') : kindG ins df n v at' = -1 := by
  cases n with
  | zero => rfl
  | succ n => show (if _ then _ else _) = _; rw [if_pos h]
theorem kindG_at {ins : List Api.TIns} {df : Int → Int} {n : Nat} {k : Nat} {at' : Int} {x : Api.TIns} (h1 : (k : Int) < at') (h2 : at' ≤ ins.length) (hx : ins[k]? = some x) :
    kindG ins df (n + 1) k at' = if tellsOf x.Op = false then -1
        else if 0 ≤ ownK (kindG ins df n x.A k) x then ownK (kindG ins df n x.A k) x
        else match upK ins k (k + 1) (at'.toNat - (k + 1)) with
          | some q => q
          | none => df (ownK (kindG ins df n x.A k) x) := by
  show (if _ then _ else _) = _
  rw [if_neg (by omega)]
  simp only [Int.toNat_natCast, hx]
/-- Where what is held is right, both ways tell the same. -/
theorem kind_same {ins : List Api.TIns} (h : ∀ x ∈ ins, x.Op = 2 → 0 ≤ x.K.Kind) : ∀ (n : Nat) (v at' : Int), kindG ins (fun _ => -1) n v at' = kindG ins (fun k => k) n v at'
  | 0, _, _ => rfl
  | n + 1, v, at' => by
    by_cases hb : v < 0 ∨ at' ≤ v ∨ (ins.length : Int) < at'
    · rw [kindG_bad hb, kindG_bad hb]
    · obtain ⟨k, rfl⟩ : ∃ k : Nat, v = k := ⟨v.toNat, by omega⟩
      obtain ⟨x, hx⟩ : ∃ x, ins[k]? = some x := ⟨_, List.getElem?_eq_getElem (by omega)⟩
      rw [kindG_at (by omega) (by omega) hx, kindG_at (by omega) (by omega) hx, kind_same h n x.A k]
      generalize kindG ins (fun k => k) n x.A k = r
      split
      · rfl
      · split
        · rfl
        · rename_i hn
          cases upK ins k (k + 1) (at'.toNat - (k + 1)) with
          | some q => rfl
          | none =>
            show -1 = ownK r x
            unfold ownK at hn ⊢
            split at hn
            · rename_i h2
              exact absurd (h x (List.mem_of_getElem? hx) h2) hn
            · split at hn
              · exact absurd (by decide) hn
              · split at hn
                · exact absurd (by decide) hn
                · split at hn
                  · split at hn
                    · exact absurd (by decide) hn
                    · split at hn
                      · omega
                      · rename_i a1 a2 a3 a4 a5 a6
                        rw [if_neg a1, if_neg a2, if_neg a3, if_pos a4, if_neg a5, if_neg a6]
                  · rename_i a1 a2 a3 a4
                    rw [if_neg a1, if_neg a2, if_neg a3, if_neg a4]
end Go.Proofs.YtjlnaiiajlahgaaDoor.chk
