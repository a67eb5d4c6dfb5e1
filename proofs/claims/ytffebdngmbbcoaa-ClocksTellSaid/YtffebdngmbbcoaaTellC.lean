/- ClocksTell: the reference's ClockAhead, walked. -/
import Derived.Test.YtffebdngmbbcoaaTellB
import Derived.Test.YtffebdngmbbcoaaMore
set_option linter.unusedVariables false
set_option linter.unusedSimpArgs false
namespace Go.Proofs.Ytffebdngmbbcoaa.clk
open Go.Bk Go.RowKit Go.Maps Go.Proofs.Ytffebdngmbbcoaa.lock

def flags (n : Nat) (f : Nat → Bool) : List Bool := (List.range n).map f
theorem flags_get {n x : Nat} (f : Nat → Bool) (h : x < n) : (flags n f)[x]? = some (f x) := by simp [flags, h]
theorem flags_len (n : Nat) (f : Nat → Bool) : (flags n f).length = n := by simp [flags]
theorem flags_congr {n : Nat} {f g : Nat → Bool} (h : ∀ x, x < n → f x = g x) : flags n f = flags n g := by
  unfold flags
  apply List.map_congr_left
  intro t ht
  rw [h t (List.mem_range.1 ht)]
theorem flags_set {n b : Nat} (f : Nat → Bool) (u : Bool) : (flags n f).set b u = flags n (fun x => if x = b then u else f x) := by
  apply List.ext_getElem?
  intro i
  by_cases hi : i < n
  · rw [flags_get _ hi]
    by_cases e : b = i
    · subst e
      rw [List.getElem?_set_self (by rw [flags_len]; exact hi), if_pos rfl]
    · rw [List.getElem?_set_ne e, flags_get _ hi, if_neg (fun e2 => e e2.symm)]
  · rw [List.getElem?_eq_none (by rw [List.length_set, flags_len]; omega), List.getElem?_eq_none (by rw [flags_len]; omega)]
theorem flags_none (n : Nat) : List.replicate n (Value.bool false) = boolsV (flags n fun _ => false) := by
  apply List.ext_getElem?
  intro i
  by_cases hi : i < n
  · rw [boolsV_get (flags_get _ hi), List.getElem?_replicate, if_pos hi]
  · rw [List.getElem?_eq_none (by simp; omega), List.getElem?_eq_none (by simp [boolsV, flags_len]; omega)]
def outF (l : List Api.Event) (j d b k : Nat) (x : Nat) : Bool := isD l j x d || (decide (x < b) && edgeB l x k)
def seenF (l : List Api.Event) (j d b k : Nat) (x : Nat) : Bool := isD l j x d || decide (x = j) || (decide (x < b) && edgeB l x k)
theorem outF_zero (l : List Api.Event) (j d k x : Nat) : outF l j d 0 k x = isD l j x d := by unfold outF; simp
theorem seenF_zero (l : List Api.Event) (j d k x : Nat) : seenF l j d 0 k x = (isD l j x d || decide (x = j)) := by unfold seenF; simp
theorem outF_full {l : List Api.Event} {j d k : Nat} (hk : k + d = j) (hp : past l j k = true) (x : Nat) : outF l j d k k x = isD l j x (d + 1) := by
  unfold outF
  rw [isD, show j - d = k by omega, hp, Bool.and_true]
  cases h : edgeB l x k with
  | true => rw [decide_eq_true (edgeB_lt h)]; rfl
  | false => simp
theorem isD_skip {l : List Api.Event} {j d k : Nat} (hk : k + d = j) (hp : past l j k = false) (x : Nat) : isD l j x (d + 1) = isD l j x d := by
  rw [isD, show j - d = k by omega, hp]; simp
theorem outF_step {l : List Api.Event} {j d b k : Nat} (x : Nat) : outF l j d (b + 1) k x = if edgeB l b k = true ∧ x = b then true else outF l j d b k x := by
  unfold outF
  by_cases e : x = b
  · subst e
    cases h : edgeB l x k with
    | true => simp
    | false => simp
  · rw [if_neg (fun h => e h.2)]
    by_cases e2 : x < b
    · rw [decide_eq_true e2, decide_eq_true (by omega)]
    · rw [decide_eq_false e2, decide_eq_false (by omega)]
theorem seenF_out (l : List Api.Event) (j d b k x : Nat) : seenF l j d b k x = (outF l j d b k x || decide (x = j)) := by
  unfold seenF outF
  cases isD l j x d <;> cases decide (x = j) <;> simp
def AheadPost (w : World) (l : List Api.Event) (n j : Nat) (e : Ending) (w' : World) : Prop := ∃ g : Nat, e = .returned (.slice (some ⟨g, 0, none⟩) n n) ∧ w.heap.size ≤ g ∧ Blk w' g 4 (boolsV (flags n (ahead l j))) ∧ Below w.heap.size w w'
def aRel (w : World) (l : List Api.Event) (n j g : Nat) (v7 : Value) (w' : World) : Prop :=
  ∃ d : Nat, d ≤ j + 1 ∧ v7 = .int .i64 ((j : Int) - (d : Int)) ∧ Blk w' w.heap.size 4 (boolsV (flags n fun x => isD l j x d)) ∧ Blk w' g 4 (boolsV (flags n fun x => isD l j x d || decide (x = j))) ∧ Below w.heap.size w w'
def bRel (w : World) (l : List Api.Event) (n j g d k : Nat) (v8 : Value) (w' : World) : Prop :=
  ∃ b : Nat, b ≤ k ∧ v8 = .int .i64 (b : Nat) ∧ Blk w' w.heap.size 4 (boolsV (flags n (outF l j d b k))) ∧ Blk w' g 4 (boolsV (flags n (seenF l j d b k))) ∧ Below w.heap.size w w'
set_option maxRecDepth 100000 in
set_option maxHeartbeats 4000000 in
theorem ahead_any {S : Nat → Prop} {w : World} {a : Option Addr} {c n j : Nat} {l : List Api.Event} (hn : l.length = n) (h : Arr S w a l) (hS : ∀ b, S b → b < w.heap.size) (hj : j < n) (hl : n ≤ 200) :
    Calls Try.prog 28 #[.slice a n c, .int .i64 (j : Nat)] w (AheadPost w l n j) := by
  have HIE : Hid (∀ (w' : World) (p q : Nat), Below w.heap.size w w' → p < q → q < n → Calls Try.prog 24 #[.slice a n c, .int .i64 (p : Nat), .int .i64 (q : Nat)] w' fun e w'' => e = .returned (.bool (edgeB l p q)) ∧ Below w'.heap.size w' w'') :=
    fun w' p q hb hpq hq => isEdge_any hn (h.keep (fun b hb' => hb.block b (hS b hb'))) (fun b hb' => Nat.lt_of_lt_of_le (hS b hb') hb.size) hpq hq
  clear hn h hS
  go_enter Try.func28, Try.ntmps28
  go_upto_region 2 with (with_reducible refine wp_make rfl rfl Try.underlying65 Try.info4 rfl rfl rfl (by omega) (by unfold maxLen; omega) fun w1 hblk hbel hsz => ?_)
  have HK1 := Lib.hid hblk; have HB1 := Lib.hid hbel
  have hs1 := hsz
  clear hblk hbel hsz
  go_upto_region 3 with (with_reducible refine wp_make rfl rfl Try.underlying65 Try.info4 rfl rfl rfl (by omega) (by unfold maxLen; omega) fun w2 hblk hbel hsz => ?_)
  have HK2 : Hid (Blk w2 w1.heap.size 4 (boolsV (flags n fun _ => false))) := by show Blk _ _ _ _; rw [← flags_none]; exact hblk
  have HB2 := Lib.hid (HB1.out.trans (hbel.mono HB1.out.size))
  have HK1' : Hid (Blk w2 w.heap.size 4 (boolsV (flags n fun _ => false))) := by show Blk _ _ _ _; rw [← flags_none]; exact HK1.out.below hbel hs1
  have c0 := HK2.out.cell (boolsV_get (flags_get _ hj))
  have f0 := HK2.out.frozen j
  obtain ⟨g, hg⟩ : ∃ g, g = w1.heap.size := ⟨_, rfl⟩
  rw [← hg] at HK2 c0 f0 hs1 hsz ⊢
  clear hg HK1 HB1 hblk hbel
  go_wp2_with fail
  have HK3 : Hid (Blk (w2.setCell ⟨g, j, none⟩ (.bool true)) g 4 (boolsV (flags n fun x => isD l j x 0 || decide (x = j)))) := by
    have := HK2.out.set j (.bool true)
    rw [boolsV_set, flags_set] at this
    rw [flags_congr (g := fun x => if x = j then true else false) fun x _ => by rw [isD]; by_cases e : x = j <;> simp [e]]
    exact this
  have HK4 : Hid (Blk (w2.setCell ⟨g, j, none⟩ (.bool true)) w.heap.size 4 (boolsV (flags n fun x => isD l j x 0))) := HK1'.out.keep (blk_setCell_other _ _ _ (by show w.heap.size ≠ g; omega))
  have HB3 := Lib.hid (HB2.out.setCell (p := ⟨g, j, none⟩) (by show w.heap.size ≤ g; omega) (.bool true))
  clear HK1' HK2 HB2 c0 f0 hsz
  obtain ⟨w3, hw3⟩ : ∃ w3, w3 = w2.setCell ⟨g, j, none⟩ (.bool true) := ⟨_, rfl⟩
  rw [← hw3] at HK3 HK4 HB3 ⊢
  clear hw3
  go_loopw [7] (aRel w l n j g) (fun i _ => (intOf i + 1).toNat)
  case atStart => exact ⟨0, by omega, by go_num, HK4.out, HK3.out, HB3.out⟩
  case round =>
    clear HK3 HK4 HB3
    obtain ⟨d, hd, rfl, hk1, hk2, hb⟩ := hrel
    have HK1 := Lib.hid hk1; have HK2 := Lib.hid hk2; have HB := Lib.hid hb
    have hbs := hb.size
    clear hk1 hk2 hb
    obtain ⟨wd, hwd⟩ : ∃ wd : World, wd = wr := ⟨_, rfl⟩
    rw [← hwd] at HK1 HK2 HB hbs ⊢
    clear hwd
    by_cases hdj : d ≤ j
    · obtain ⟨k, hk⟩ : ∃ k, k = j - d := ⟨_, rfl⟩
      have hkd : k + d = j := by omega
      have hkn : k < n := by omega
      rw [show (j : Int) - (d : Int) = (k : Int) by omega]
      have ck := HK2.out.cell (boolsV_get (flags_get _ hkn))
      rw [at_turn hkd] at ck
      have HKD := Lib.hid hkd
      have hbj : (j : Int) - ((d + 1 : Nat) : Int) = (k : Int) - 1 := by omega
      have HBJ := Lib.hid hbj
      have hkj : k ≤ j := by omega
      clear hk hkd hbj
      cases hp : past l j k with
      | false =>
        rw [hp] at ck
        have HS := Lib.hid (isD_skip HKD.out hp)
        clear hp
        go_wp2_with fail
        go_roundw
        case rel =>
          refine ⟨d + 1, by omega, by rw [HBJ.out], ?_, ?_, HB.out⟩
          · rw [flags_congr fun x _ => HS.out x]; exact HK1.out
          · rw [flags_congr fun x _ => by rw [HS.out x]]; exact HK2.out
        case measure => simp [intOf] <;> omega
      | true =>
        rw [hp] at ck
        have HS := Lib.hid (outF_full HKD.out hp)
        have HK3 : Hid (Blk wd w.heap.size 4 (boolsV (flags n (outF l j d 0 k)))) := by show Blk _ _ _ _; rw [flags_congr fun x _ => outF_zero l j d k x]; exact HK1.out
        have HK4 : Hid (Blk wd g 4 (boolsV (flags n (seenF l j d 0 k)))) := by show Blk _ _ _ _; rw [flags_congr fun x _ => seenF_zero l j d k x]; exact HK2.out
        clear hp HK1 HK2
        go_wp2_with fail
        go_loopw [8] (bRel w l n j g d k) (fun i _ => k - (intOf i).toNat)
        case atStart => exact ⟨0, Nat.zero_le _, rfl, HK3.out, HK4.out, HB.out⟩
        case round =>
          clear HK3 HK4 HB ck
          obtain ⟨b, hbk, rfl, hk1, hk2, hb⟩ := hrel
          have HK1 := Lib.hid hk1; have HK2 := Lib.hid hk2; have HB := Lib.hid hb
          have hbs2 := hb.size
          have hgl := hk2.lt
          clear hk1 hk2 hb
          by_cases hlt : b < k
          · have HI := Lib.hid (HIE.out wr b k HB.out hlt hkn)
            cases he : edgeB l b k with
            | false =>
              rw [he] at HI
              have HST : Hid (∀ x, outF l j d (b + 1) k x = outF l j d b k x) := fun x => by rw [outF_step, he, if_neg (fun h => by cases h.1)]
              clear he
              go_wp2_with (go_at_call 24; (with_reducible refine HI.out.mono ?_); rintro e w4 ⟨rfl, hb⟩; have HK3 := Lib.hid (HK1.out.below hb (by omega)); have HK4 := Lib.hid (HK2.out.below hb (by omega)); have HB4 := Lib.hid (HB.out.trans (hb.mono hbs2)); clear hb)
              go_roundw
              case rel =>
                refine ⟨b + 1, by omega, by go_num, ?_, ?_, HB4.out⟩
                · rw [flags_congr fun x _ => HST.out x]; exact HK3.out
                · rw [flags_congr (g := seenF l j d b k) fun x _ => by rw [seenF_out, seenF_out, HST.out x]]; exact HK4.out
              case measure => simp [intOf] <;> omega
            | true =>
              rw [he] at HI
              have HST : Hid (∀ x, outF l j d (b + 1) k x = if x = b then true else outF l j d b k x) := fun x => by
                rw [outF_step, he]
                by_cases e : x = b <;> simp [e]
              have hbn : b < n := by omega
              have hgw : w.heap.size ≠ g := by omega
              clear he
              go_wp2_with (go_at_call 24; (with_reducible refine HI.out.mono ?_); rintro e w4 ⟨rfl, hb⟩; have HK3 := Lib.hid (HK1.out.below hb (by omega)); have HK4 := Lib.hid (HK2.out.below hb (by omega)); have HB4 := Lib.hid (HB.out.trans (hb.mono hbs2)); have c1 := HK4.out.cell (boolsV_get (flags_get _ hbn)); have f1 := HK4.out.frozen b; have c2 := (HK3.out.keep (blk_setCell_other ⟨g, b, none⟩ (.bool true) _ hgw)).cell (boolsV_get (flags_get _ hbn)); have f2 := (HK3.out.keep (blk_setCell_other ⟨g, b, none⟩ (.bool true) _ hgw)).frozen b; clear hb)
              go_roundw
              case rel =>
                refine ⟨b + 1, by omega, by go_num, ?_, ?_, (HB4.out.setCell (p := ⟨g, b, none⟩) (by show w.heap.size ≤ g; omega) _).setCell (p := ⟨w.heap.size, b, none⟩) (Nat.le_refl _) _⟩
                · have := (HK3.out.keep (blk_setCell_other ⟨g, b, none⟩ (.bool true) _ hgw)).set b (.bool true)
                  rw [boolsV_set, flags_set] at this
                  rw [flags_congr fun x _ => HST.out x]
                  exact this
                · have := HK4.out.set b (.bool true)
                  rw [boolsV_set, flags_set] at this
                  rw [flags_congr (g := fun x => if x = b then true else seenF l j d b k x) fun x _ => by rw [seenF_out, seenF_out, HST.out x]; by_cases e : x = b <;> simp [e]]
                  exact this.keep (blk_setCell_other _ _ _ (fun e => hgw e.symm))
              case measure => simp [intOf] <;> omega
          · obtain rfl : b = k := by omega
            go_wp2_with fail
            go_roundw
            case rel =>
              refine ⟨d + 1, by omega, by rw [HBJ.out], ?_, ?_, HB.out⟩
              · rw [← flags_congr fun x _ => HS.out x]; exact HK1.out
              · rw [← flags_congr (f := seenF l j d b b) fun x _ => by rw [seenF_out, HS.out x]]; exact HK2.out
            case measure => simp [intOf] <;> omega
    · obtain rfl : d = j + 1 := by omega
      rw [show (j : Int) - ((j + 1 : Nat) : Int) = -1 by omega]
      have HKF : Hid (Blk wd w.heap.size 4 (boolsV (flags n (ahead l j)))) := by show Blk _ _ _ _; rw [← flags_congr fun x _ => isD_all (l := l) (j := j) (n := x)]; exact HK1.out
      clear HK1 HK2
      go_wp2_with fail
      go_ret
      exact ⟨w.heap.size, rfl, Nat.le_refl _, HKF.out, HB.out⟩
end Go.Proofs.Ytffebdngmbbcoaa.clk
