/- All, walked: every value put behind what was put. -/
import Derived.Test.YtfdpannanpipdaaSpoolRput
set_option linter.unusedVariables false
set_option linter.unusedSimpArgs false
namespace Go.Proofs.Ytfdpannanpipdaa.spool
open Go.Bk Go.RowKit

/-- One value more: nothing behind an error. -/
def putSt (s : List UInt8 × Int) (v : Api.Val) : List UInt8 × Int := if s.2 = 0 then putOf s.1 v else s
def allOf (l : List Api.Val) : List UInt8 × Int := l.foldl putSt ([], 0)
theorem putOf_err {b : List UInt8} {v : Api.Val} (h : (putOf b v).2 ≠ 0) : putOf b v = ([], (putOf b v).2) := by
  unfold putOf at *
  split
  · rfl
  · split
    · rfl
    · rename_i h1 h2
      simp [h1, h2] at h
theorem putOf_len {b : List UInt8} {v : Api.Val} : (putOf b v).1.length ≤ 4000 := by
  unfold putOf
  split
  · simp
  · split
    · simp
    · simp [recOf_len]; omega
theorem foldPut_stuck {e : Int} (he : e ≠ 0) : ∀ (l : List Api.Val) (b : List UInt8), l.foldl putSt (b, e) = (b, e)
  | [], _ => rfl
  | v :: l, b => by rw [List.foldl_cons, show putSt (b, e) v = (b, e) from if_neg he]; exact foldPut_stuck he l b
theorem allOf_succ {l : List Api.Val} {k : Nat} {v : Api.Val} (h : l[k]? = some v) : allOf (l.take (k + 1)) = putSt (allOf (l.take k)) v := by
  unfold allOf
  rw [List.take_add_one, h]
  simp
theorem allOf_stuck {l : List Api.Val} {k : Nat} (h : (allOf (l.take k)).2 ≠ 0) : allOf l = allOf (l.take k) := by
  have := List.take_append_drop k l
  unfold allOf at *
  conv => lhs; rw [← this, List.foldl_append]
  exact foldPut_stuck h _ _
theorem putSt_len {s : List UInt8 × Int} {v : Api.Val} (h : s.1.length ≤ 4000) : (putSt s v).1.length ≤ 4000 := by
  unfold putSt
  split
  · exact putOf_len
  · exact h
theorem allOf_len (l : List Api.Val) : (allOf l).1.length ≤ 4000 := by
  have : ∀ (l : List Api.Val) (s : List UInt8 × Int), s.1.length ≤ 4000 → (l.foldl putSt s).1.length ≤ 4000 := by
    intro l
    induction l with
    | nil => intro s h; exact h
    | cons v l ih => intro s h; exact ih _ (putSt_len h)
  exact this l _ (by simp)

def allRel (w : World) (l : List Api.Val) (b i : Value) (w' : World) : Prop :=
  ∃ (k : Nat) (bs : List UInt8) (a : Option Addr) (n c : Nat), k ≤ l.length ∧ i = .int .i64 k ∧ b = .slice a n c ∧ allOf (l.take k) = (bs, 0) ∧ bs.length = n ∧ n ≤ c ∧ (a = none → c = 0) ∧ Arr (fun b => w.heap.size ≤ b ∧ b < w'.heap.size) w' a bs ∧ Below w.heap.size w w'
theorem put_at {S : Nat → Prop} {W : World} {a : Option Addr} {c n : Nat} {b : List UInt8} {K N : Int} {R : List UInt8 × Int} (hR : putOf b ⟨K, N⟩ = R) (hn : b.length = n) (h : Arr S W a b) (hS : ∀ b, S b → b < W.heap.size) (hc : n ≤ c) (hnil : a = none → c = 0) (h47 : n ≤ 140737488355328) :
    Calls Try.prog 21 #[.slice a n c, .agg #[.int .i64 K, .int .i64 N]] W (PutPost W R) := hR ▸ put_any hn h hS hc hnil h47
theorem rput_at {S : Nat → Prop} {W : World} {a : Option Addr} {c n : Nat} {b : List UInt8} {K N : Int} {R : List UInt8 × Int} (hR : putOf b ⟨K, N⟩ = R) (hn : b.length = n) (h : Arr S W a b) (hS : ∀ b, S b → b < W.heap.size) (hc : n ≤ c) (hnil : a = none → c = 0) :
    Calls Try.prog 22 #[.slice a n c, .agg #[.int .i64 K, .int .i64 N]] W (PutPost W R) := hR ▸ rput_any hn h hS hc hnil

set_option maxRecDepth 100000 in
set_option maxHeartbeats 2000000 in
theorem all_any {S : Nat → Prop} {w : World} {a : Option Addr} {c m : Nat} {l : List Api.Val} (hm : l.length = m) (h : Arr S w a l) (hS : ∀ b, S b → b < w.heap.size) :
    Calls Try.prog 23 #[.slice a m c] w (PutPost w (allOf l)) := by
  have hsm := h.small
  rw [hm] at hsm
  unfold maxLen at hsm
  have HM := Lib.hid hm
  obtain ⟨R, hR⟩ : ∃ R, R = allOf l := ⟨_, rfl⟩
  rw [← hR]
  have HRE := Lib.hid hR
  clear hR hm
  go_enter Try.func23, Try.ntmps23
  go_wp2_with fail
  go_loopw [4, 11] (allRel w l) (fun _ i _ => m - (intOf i).toNat)
  case atStart => exact ⟨0, [], none, 0, 0, Nat.zero_le _, rfl, rfl, rfl, rfl, Nat.le_refl _, fun _ => rfl, Arr.nil _ _ _, Below.refl _ _⟩
  case round =>
    obtain ⟨k, bs, ab, n, cb, hk, rfl, rfl, hst, hbn, hcb, hnb, harr, hb⟩ := hrel
    rw [HM.out] at hk
    have HST := Lib.hid hst
    have HBN := Lib.hid hbn
    have HB := Lib.hid hb
    have HAB : Hid (∀ W, Below wr.heap.size wr W → Arr (· < W.heap.size) W ab bs) := fun W hW => (harr.keep (fun b hb' => hW.block b hb'.2)).mono (fun b hb' => Nat.lt_of_lt_of_le hb'.2 hW.size)
    have hs := hb.size
    have HARR := Lib.hid harr
    have h' := h.keep (w' := wr) (fun b hb' => hb.block b (hS b hb'))
    have hbl4 : n ≤ 4000 := by rw [← hbn]; have := allOf_len (l.take k); rw [hst] at this; exact this
    clear hst hbn hb harr h
    by_cases hlt : k < m
    · obtain ⟨⟨K, N⟩, hx⟩ : ∃ x, l[k]? = some x := ⟨_, List.getElem?_eq_getElem (by have := HM.out; omega)⟩
      obtain ⟨g, off, rfl, hSg, q0, q1, -, -⟩ := api_Val_elem h' hx
      have HX : Hid (allOf (l.take (k + 1)) = putOf bs ⟨K, N⟩) := by
        show _ = _
        rw [allOf_succ hx, HST.out]; rfl
      clear h' hx
      go_wp2_with fail
      obtain ⟨P, hP⟩ : ∃ P, putOf bs ⟨K, N⟩ = P := ⟨_, rfl⟩
      have HP := Lib.hid hP
      rw [hP] at HX
      have hPl : P.1.length ≤ 4000 := hP ▸ putOf_len
      have HPE : Hid (P.2 ≠ 0 → P = ([], P.2)) := hP ▸ fun h => putOf_err h
      clear hP
      refine (put_at HP.out HBN.out (HAB.out _ ((Below.refl _ _).alloc (Nat.le_refl _) _)) (fun b h => h) hcb hnb (by omega)).mono ?_
      rintro e w2 ⟨a2, c2, rfl, ha2, hn2, hc2, hb2⟩
      obtain ⟨X, e⟩ := P
      have HB2 : Hid (Below w.heap.size w w2) := HB.out.trans ((((Below.refl wr.heap.size wr).alloc (Nat.le_refl _) _).trans (hb2.mono (by simp))).mono hs)
      have HA2 : Hid (Arr (fun b => w.heap.size ≤ b ∧ b < w2.heap.size) w2 a2 X) := ha2.mono fun b hb => ⟨by have := hb.1; simp at this; omega, hb.2⟩
      clear ha2 hb2 HAB
      dsimp only at hPl hc2 HPE
      dsimp only
      by_cases he : e = 0
      · subst he
        obtain ⟨n2, hn2'⟩ : ∃ n, X.length = n := ⟨_, rfl⟩
        rw [hn2'] at hPl hc2
        rw [hn2']
        have HN2 := Lib.hid hn2'
        clear hn2'
        go_wp2_with fail
        go_roundw
        case rel => exact ⟨k + 1, X, a2, n2, c2, by rw [HM.out]; omega, by go_num, rfl, HX.out, HN2.out, hc2, hn2, HA2.out, HB2.out⟩
        case measure => simp [intOf]; omega
      · have hd : decide (e = 0) = false := decide_eq_false he
        have HRE2 : Hid (R = ([], e)) := by
          show _ = _
          rw [HRE.out, allOf_stuck (k := k + 1) (by rw [HX.out]; exact he), HX.out]
          exact HPE.out he
        clear HPE hPl hc2 hn2 HA2 HX HP
        generalize X.length = n2
        go_wp2_with fail
        go_ret2
        rw [HRE2.out]
        exact ⟨none, 0, rfl, Arr.nil _ _ _, fun _ => rfl, Nat.le_refl _, HB2.out⟩
    · obtain rfl : k = m := by omega
      have HRE2 : Hid (R = (bs, 0)) := by
        show _ = _
        rw [HRE.out, ← HST.out, ← HM.out, List.take_length]
      clear h'
      go_wp2_with fail
      go_ret2
      rw [HRE2.out]
      exact ⟨ab, cb, by rw [← HBN.out]; rfl, HARR.out, hnb, (by rw [HBN.out]; exact hcb), HB.out⟩
end Go.Proofs.Ytfdpannanpipdaa.spool
