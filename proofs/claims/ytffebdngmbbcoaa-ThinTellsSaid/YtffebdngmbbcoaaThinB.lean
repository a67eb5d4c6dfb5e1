/- ThinTells: Kept, Add, From, walked. -/
import Derived.Test.YtffebdngmbbcoaaThinA
import Derived.Test.YtffebdngmbbcoaaBsearch
import Derived.Test.YtffebdngmbbcoaaEqualI
set_option linter.unusedVariables false
set_option linter.unusedSimpArgs false
namespace Go.Proofs.Ytffebdngmbbcoaa.thin
open Go.Bk Go.RowKit Go.Bk.srt

theorem kept_int (w : World) {n : Int} (h0 : 0 ≤ n) (hn : n ≤ 4000) : Calls Try.prog 34 #[.int .i64 n] w (ListPost w (keptL n.toNat)) := by
  have := kept_any w (n := n.toNat) (by omega)
  rwa [show ((n.toNat : Nat) : Int) = n by omega] at this
theorem thinKept_int (w : World) {n : Int} (h0 : 0 ≤ n) (hn : n ≤ 4000) : Calls Try.prog 18 #[.int .i64 n] w (ListPost w (keptL n.toNat)) := by
  have := thinKept_any w (n := n.toNat) (by omega)
  rwa [show ((n.toNat : Nat) : Int) = n by omega] at this
def keptRes (n : Int) : List Int × Int := if n < 0 ∨ 4000 < n then ([], 1) else (keptL n.toNat, 0)
def addRes (l : List Int) (n : Int) : List Int × List Int × Int := if n < 1 ∨ 4000 < n then ([], [], 1) else if l = keptL (n - 1).toNat then (keptL n.toNat, l.filter (fun x => !decide (x ∈ keptL n.toNat)), 0) else ([], [], 3)
def KeptPost (w : World) (r : List Int × Int) (e : Ending) (w' : World) : Prop := ∃ v, e = .returned (.tuple #[v, .int .i64 r.2]) ∧ Own (fun _ => False) w' w.heap.size 3 v r.1 ∧ Below w.heap.size w w'
def AddPost (w : World) (r : List Int × List Int × Int) (e : Ending) (w' : World) : Prop := ∃ v1 v2, e = .returned (.tuple #[v1, v2, .int .i64 r.2.2]) ∧ Own (fun _ => False) w' w.heap.size 3 v1 r.1 ∧ Own (fun _ => False) w' w.heap.size 3 v2 r.2.1 ∧ Below w.heap.size w w'
theorem KeptPost.err {w w' : World} {r : List Int × Int} {n : Int} (h : r = ([], n)) (hb : Below w.heap.size w w') : KeptPost w r (.returned (.tuple #[.slice none 0 0, .int .i64 n])) w' := ⟨_, by rw [h], by rw [h]; exact Own.nil _ _ _ _, hb⟩
theorem AddPost.err {w w' : World} {r : List Int × List Int × Int} {n : Int} (h : r = ([], [], n)) (hb : Below w.heap.size w w') : AddPost w r (.returned (.tuple #[.slice none 0 0, .slice none 0 0, .int .i64 n])) w' := ⟨_, _, by rw [h], by rw [h]; exact Own.nil _ _ _ _, by rw [h]; exact Own.nil _ _ _ _, hb⟩
set_option maxRecDepth 100000 in
theorem Kept_any (w : World) (n : Int) : Calls Try.prog 15 #[.int .i64 n] w (KeptPost w (keptRes n)) := by
  by_cases h0 : n < 0
  · have HR : Hid (keptRes n = ([], 1)) := by show _ = _; unfold keptRes; rw [if_pos (.inl h0)]
    have d0 : decide (n < 0) = true := decide_eq_true h0
    clear h0
    go_enter Try.func15, Try.ntmps15
    go_wp2
    go_ret2
    exact .err HR.out (Below.refl _ _)
  · by_cases h1 : 4000 < n
    · have HR : Hid (keptRes n = ([], 1)) := by show _ = _; unfold keptRes; rw [if_pos (.inr h1)]
      have d0 : decide (n < 0) = false := decide_eq_false h0
      have d1 : decide (4000 < n) = true := decide_eq_true h1
      clear h0 h1
      go_enter Try.func15, Try.ntmps15
      go_wp2
      go_ret2
      exact .err HR.out (Below.refl _ _)
    · have HR : Hid (keptRes n = (keptL n.toNat, 0)) := by show _ = _; unfold keptRes; rw [if_neg (by omega)]
      have d0 : decide (n < 0) = false := decide_eq_false h0
      have d1 : decide (4000 < n) = false := decide_eq_false h1
      have HC := Lib.hid (kept_int w (n := n) (by omega) (by omega))
      clear h0 h1
      go_enter Try.func15, Try.ntmps15
      go_wp2_with fail
      refine HC.out.mono ?_
      rintro e w1 ⟨v, rfl, ho, hb⟩
      have HO := Lib.hid ho; have HB := Lib.hid hb
      clear ho hb
      go_wp2_with fail
      go_ret2
      exact ⟨_, by rw [HR.out]; rfl, by rw [HR.out]; exact HO.out, HB.out⟩
def goneTo (l out : List Int) (k : Nat) : List Int := (l.take k).filter fun x => !decide (x ∈ out)
theorem goneTo_succ {l out : List Int} {k : Nat} {x : Int} (hx : l[k]? = some x) : goneTo l out (k + 1) = goneTo l out k ++ if x ∈ out then [] else [x] := by
  unfold goneTo
  rw [List.take_add_one, hx, List.filter_append]
  congr 1
  by_cases h : x ∈ out <;> simp [h]
theorem goneTo_len (l out : List Int) (k : Nat) : (goneTo l out k).length ≤ l.length := Nat.le_trans (List.length_filter_le _ _) (by simp; omega)
def goRel (wl : World) (l out : List Int) (n : Nat) (v8 v31 : Value) (w' : World) : Prop := ∃ k : Nat, k ≤ n ∧ v31 = .int .i64 k ∧ Own (fun _ => False) w' wl.heap.size 3 v8 (goneTo l out k) ∧ Below wl.heap.size wl w'
theorem own_wide {α : Type} [Rep α] {S : Nat → Prop} {w : World} {B B' : Nat} {e : TypeId} {v : Value} {xs : List α} (h : Own S w B e v xs) (hB : B' ≤ B) : Own S w B' e v xs := by
  obtain ⟨css, h1, h2, hl, ⟨e1, e2⟩ | ⟨g, cap, cur, he, hg, hr⟩⟩ := h
  · exact ⟨css, h1, h2, hl, .inl ⟨e1, e2⟩⟩
  · exact ⟨css, h1, h2, hl, .inr ⟨g, cap, cur, he, Nat.le_trans hB hg, hr⟩⟩
set_option maxRecDepth 100000 in
set_option maxHeartbeats 1000000 in
theorem Add_any {S : Nat → Prop} {w : World} {a : Option Addr} {c m : Nat} {l : List Int} {n : Int} (hn : l.length = m) (h : Arr S w a l) (hS : ∀ b, S b → b < w.heap.size) :
    Calls Try.prog 16 #[.slice a m c, .int .i64 n] w (AddPost w (addRes l n)) := by
  have HN := Lib.hid hn
  have HA : Hid (∀ w', Below w.heap.size w w' → Arr S w' a l) := fun w' hb => h.keep (fun b hb' => hb.block b (hS b hb'))
  clear hn h hS
  by_cases h0 : n < 1
  · have HR : Hid (addRes l n = ([], [], 1)) := by show _ = _; unfold addRes; rw [if_pos (.inl h0)]
    have d0 : decide (n < 1) = true := decide_eq_true h0
    clear h0
    go_enter Try.func16, Try.ntmps16
    go_wp2
    go_ret3
    exact .err HR.out (Below.refl _ _)
  · by_cases h1 : 4000 < n
    · have HR : Hid (addRes l n = ([], [], 1)) := by show _ = _; unfold addRes; rw [if_pos (.inr h1)]
      have d0 : decide (n < 1) = false := decide_eq_false h0
      have d1 : decide (4000 < n) = true := decide_eq_true h1
      clear h0 h1
      go_enter Try.func16, Try.ntmps16
      go_wp2
      go_ret3
      exact .err HR.out (Below.refl _ _)
    · have HR : Hid (addRes l n = if l = keptL (n - 1).toNat then (keptL n.toNat, l.filter (fun x => !decide (x ∈ keptL n.toNat)), 0) else ([], [], 3)) := by show _ = _; unfold addRes; rw [if_neg (by omega)]
      have d0 : decide (n < 1) = false := decide_eq_false h0
      have d1 : decide (4000 < n) = false := decide_eq_false h1
      have HC1 : Hid (∀ w, Calls Try.prog 34 #[.int .i64 (n - 1)] w (ListPost w (keptL (n - 1).toNat))) := fun w => kept_int w (by omega) (by omega)
      have HC2 : Hid (∀ w, Calls Try.prog 34 #[.int .i64 n] w (ListPost w (keptL n.toNat))) := fun w => kept_int w (by omega) (by omega)
      have h1n : 1 ≤ n := by omega
      have hn4 : n ≤ 4000 := by omega
      clear h0 h1
      have hkl := keptL_len (n - 1).toNat
      go_enter Try.func16, Try.ntmps16
      go_wp2_with fail
      refine (HC1.out _).mono ?_
      rintro e w1 ⟨v, rfl, ho, hb⟩
      obtain ⟨a2, c2, rfl, -, -, harr⟩ := ho.arr
      have HB := Lib.hid hb
      have HEQ := Lib.hid (equal_any (c1 := c) (c2 := c2) HN.out rfl (HA.out _ hb) harr)
      clear ho hb harr HC1
      obtain ⟨m2, hm2⟩ : ∃ m2, m2 = (keptL (n - 1).toNat).length := ⟨_, rfl⟩
      rw [← hm2] at HEQ ⊢
      clear hm2
      by_cases he : l = keptL (n - 1).toNat
      · have hml : m ≤ 4001 := by rw [← HN.out, he]; omega
        have HR2 : Hid (addRes l n = (keptL n.toNat, l.filter (fun x => !decide (x ∈ keptL n.toNat)), 0)) := by show _ = _; rw [HR.out, if_pos he]
        rw [decide_eq_true he] at HEQ
        clear he HR
        go_wp2_with fail
        refine HEQ.out.mono ?_
        rintro e w2 ⟨rfl, hq⟩
        have HB2 := Lib.hid (HB.out.trans ((hq.below _).mono HB.out.size))
        clear hq HEQ HB
        go_wp2_with fail
        refine (HC2.out _).mono ?_
        rintro e w3 ⟨v3, rfl, ho, hb⟩
        have HO := Lib.hid ho
        have HB3 := Lib.hid (HB2.out.trans (hb.mono HB2.out.size))
        have hs3 := HB3.out.size
        have HW : Hid (w.heap.size ≤ w2.heap.size) := HB2.out.size
        obtain ⟨a3, c3, rfl, -, -, -⟩ := ho.arr
        obtain ⟨q, hq⟩ : ∃ q, (keptL n.toNat).length = q := ⟨_, rfl⟩
        rw [hq] at HO ⊢
        have HQ := Lib.hid hq
        have HSRT := Lib.hid (keptL_sorted n.toNat)
        clear ho hb HC2 HB2 hq
        obtain ⟨out, hout⟩ : ∃ o, o = keptL n.toNat := ⟨_, rfl⟩
        rw [← hout] at HO HQ HSRT HR2
        clear hout
        go_wp2_with fail
        go_loopw [8, 31] (goRel w3 l out m) (fun _ i _ => m - (intOf i).toNat)
        case atStart => exact ⟨0, Nat.zero_le _, rfl, Own.nil _ _ _ _, Below.refl _ _⟩
        case round =>
          obtain ⟨k, hk, rfl, hown, hb⟩ := hrel
          have HG := Lib.hid hown; have HB := Lib.hid hb
          have hbs := hb.size
          have hgl : (goneTo l out k).length ≤ 4001 := by
            have := goneTo_len l out k
            have := HN.out
            omega
          have HOW := Lib.hid (HO.out.below hb (fun _ h => h.elim))
          have HAW := Lib.hid (HA.out _ (HB3.out.trans (hb.mono hs3)))
          clear hown hb
          by_cases hlt : k < m
          · obtain ⟨x, hx⟩ : ∃ x, l[k]? = some x := ⟨_, List.getElem?_eq_getElem (by have := HN.out; omega)⟩
            obtain ⟨b1, o1, rfl, -, q1, ix⟩ := arr_int HAW.out hx
            have HS := Lib.hid (goneTo_succ (out := out) hx)
            have HBS : Hid (Calls Try.prog 36 #[.slice a3 q c3, .int .i64 x] wr fun e w' => e = .returned (.tuple #[.int .i64 (firstGe x out : Nat), .bool (decide (x ∈ out))]) ∧ wr = w') := by
              obtain ⟨a9, c9, e9, -, -, h9⟩ := HOW.out.arr
              injection e9 with e9 e10 e11
              subst e9 e11
              exact bsearch_any HQ.out h9 HSRT.out
            have HX := Lib.hid ix
            clear hx ix
            by_cases hm : x ∈ out
            · rw [decide_eq_true hm] at HBS
              rw [if_pos hm, List.append_nil] at HS
              clear hm
              go_wp2_with (go_at_call 36; (with_reducible refine HBS.out.mono ?_); rintro e w' ⟨rfl, rfl⟩)
              go_roundw
              case rel => exact ⟨k + 1, by omega, by go_num, by rw [HS.out]; exact HG.out, HB.out⟩
              case measure => simp [intOf]; omega
            · rw [decide_eq_false hm] at HBS
              rw [if_neg hm] at HS
              clear hm
              go_wp2_with (first
                | (go_at_call 36; (with_reducible refine HBS.out.mono ?_); rintro e w' ⟨rfl, rfl⟩)
                | ((at_builtin; with_reducible refine Try.wp_app28 rfl rfl rfl rfl rfl (by first | rfl | simp) (HG.out) (int_cells HX.out _ _) (fun _ h => h.elim) (by omega) (by first | omega | (simp; omega)) fun v' w' hown' hg' => ?_); have HG' := Lib.hid hown'; have HBW := Lib.hid (HB.out.grown hg' hbs (fun r hr => (HG.out.lt r hr).1)); clear hown' hg'))
              go_roundw
              case rel => exact ⟨k + 1, by omega, by go_num, by rw [HS.out]; exact HG'.out, HBW.out⟩
              case measure => simp [intOf]; omega
          · obtain rfl : k = m := by omega
            go_wp2_with fail
            go_ret3
            refine ⟨_, _, by rw [HR2.out]; rfl, by rw [HR2.out]; exact own_wide HOW.out HW.out, ?_, HB3.out.trans (HB.out.mono hs3)⟩
            rw [HR2.out]
            have e1 : goneTo l out k = l.filter (fun x => !decide (x ∈ out)) := by unfold goneTo; rw [List.take_of_length_le (by rw [HN.out]; exact Nat.le_refl _)]
            rw [← e1]
            exact own_wide HG.out hs3
      · have HR2 : Hid (addRes l n = ([], [], 3)) := by show _ = _; rw [HR.out, if_neg he]
        rw [decide_eq_false he] at HEQ
        clear he HR
        go_wp2_with fail
        refine HEQ.out.mono ?_
        rintro e w2 ⟨rfl, hq⟩
        have HB2 := Lib.hid (HB.out.trans ((hq.below _).mono HB.out.size))
        clear hq HEQ HB
        go_wp2_with fail
        go_ret3
        exact .err HR2.out HB2.out
end Go.Proofs.Ytffebdngmbbcoaa.thin
