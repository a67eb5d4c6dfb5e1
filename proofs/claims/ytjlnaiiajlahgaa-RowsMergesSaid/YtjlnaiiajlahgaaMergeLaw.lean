/- RowsMerges: Merge, and the law: walked. -/
import Derived.Test.YtjlnaiiajlahgaaMergeB
import Derived.Test.YtjlnaiiajlahgaaSized
set_option linter.unusedVariables false
set_option linter.unusedSimpArgs false
namespace Go.Proofs.Ytjlnaiiajlahgaa.merge
open Go.Bk Go.RowKit Go.Bk.Stab Go.Proofs.Ytjlnaiiajlahgaa.stab

theorem own_base {α : Type} [Rep α] {S : Nat → Prop} {w : World} {B B' : Nat} {e : TypeId} {v : Value} {xs : List α} (h : Own S w B e v xs) (hB : B' ≤ B) : Own S w B' e v xs := by
  obtain ⟨css, h1, h2, h3, h4⟩ := h
  refine ⟨css, h1, h2, h3, ?_⟩
  rcases h4 with h4 | ⟨g, cap, cur, e1, e2, e3⟩
  · exact .inl h4
  · exact .inr ⟨g, cap, cur, e1, by omega, e3⟩
theorem bytes_ev : Try.prog.bytesOf 81 = 96 := by kernel_rfl
theorem sized_two {P : Program} {W : World} {T T' : TypeId} {args : Array Value} (h : ArgsSized P W [T, T'] args.toList) : ∃ v v', args = #[v, v'] ∧ ArgSized P W T v ∧ ArgSized P W T' v' := by
  obtain ⟨l⟩ := args
  match l, h with
  | [v, v'], h => exact ⟨v, v', rfl, h.1, h.2.1⟩
def mcode (n n2 : Nat) (l m : List Api.Event) : Int := if 200 < n + n2 then 2 else if stdy l = true ∧ stdy m = true then 0 else 3
def MergePost (w : World) (n n2 : Nat) (l m : List Api.Event) (e : Ending) (w' : World) : Prop :=
  ∃ v ys, e = .returned (.tuple #[v, .int .i64 (mcode n n2 l m)]) ∧ Go.Bk.Own (fun _ => False) w' w.heap.size 81 v ys ∧ RowKit.Below w.heap.size w w' ∧ (mcode n n2 l m = 0 → Mgd l m ys) ∧ (mcode n n2 l m ≠ 0 → ys = [])
set_option maxRecDepth 100000 in
set_option maxHeartbeats 2000000 in
theorem merge_any {S : Nat → Prop} {w : World} {a a2 : Option Addr} {c c2 n n2 : Nat} {l m : List Api.Event} (hn : l.length = n) (hn2 : m.length = n2) (h : Arr S w a l) (h2 : Arr S w a2 m) (hS : ∀ b, S b → b < w.heap.size) (hc : n ≤ c) (hc2 : n2 ≤ c2) (hnil : a = none → c = 0) (hnil2 : a2 = none → c2 = 0) (hs1 : n ≤ 1000000000000000) (hs2 : n2 ≤ 1000000000000000) :
    Calls Try.prog 18 #[.slice a n c, .slice a2 n2 c2] w (MergePost w n n2 l m) := by
  have HA : Hid (∀ w', RowKit.Below w.heap.size w w' → Arr S w' a l ∧ Arr S w' a2 m) := fun w' hb => ⟨h.keep (fun b hb' => hb.block b (hS b hb')), h2.keep (fun b hb' => hb.block b (hS b hb'))⟩
  have HS1 : Hid (∀ w', RowKit.Below w.heap.size w w' → Calls Try.prog 44 #[.slice a n c, .func (.func 45) #[] #[]] w' fun e w'' => e = .returned (.bool (stdy l)) ∧ RowKit.Below w'.heap.size w' w'') := fun w' hb => isSorted_any hn (HA.out w' hb).1 (fun b hb' => Nat.lt_of_lt_of_le (hS b hb') hb.size)
  have HS2 : Hid (∀ w', RowKit.Below w.heap.size w w' → Calls Try.prog 44 #[.slice a2 n2 c2, .func (.func 45) #[] #[]] w' fun e w'' => e = .returned (.bool (stdy m)) ∧ RowKit.Below w'.heap.size w' w'') := fun w' hb => isSorted_any hn2 (HA.out w' hb).2 (fun b hb' => Nat.lt_of_lt_of_le (hS b hb') hb.size)
  have HN : Hid (l.length = n ∧ m.length = n2) := ⟨hn, hn2⟩
  by_cases hbig : 200 < n + n2
  · have HF : Hid (mcode n n2 l m = 2) := if_pos hbig
    have d1 : decide ((200 : Int) < (n : Int) + (n2 : Int)) = true := decide_eq_true (by omega)
    have d2 : (200 : Int) < (n : Int) + (n2 : Int) := by omega
    clear h h2 hS hn hn2 hbig
    go_enter Try.func18, Try.ntmps18
    go_wp2_with fail
    go_ret2
    exact ⟨_, [], by rw [HF.out]; rfl, Own.nil _ _ _ _, RowKit.Below.refl _ _, fun h => by rw [HF.out] at h; omega, fun _ => rfl⟩
  have d1 : decide ((200 : Int) < (n : Int) + (n2 : Int)) = false := decide_eq_false (by omega)
  have d2 : ¬ (200 : Int) < (n : Int) + (n2 : Int) := by omega
  obtain ⟨sl, hsl⟩ : ∃ sl, stdy l = sl := ⟨_, rfl⟩
  obtain ⟨sm, hsm⟩ : ∃ sm, stdy m = sm := ⟨_, rfl⟩
  rw [hsl] at HS1
  rw [hsm] at HS2
  have HCODE : Hid (mcode n n2 l m = if sl = true ∧ sm = true then 0 else 3) := by show _ = _; unfold mcode; rw [if_neg hbig, hsl, hsm]
  have HCAT : Hid (∀ w', RowKit.Below w.heap.size w w' → Calls Try.prog 46 #[.slice (some ⟨w'.heap.size, 0, none⟩) 2 2] (w'.alloc (.cells #[.slice a n c, .slice a2 n2 c2] 40)) (fun e w'' => ∃ v, e = .returned v ∧ Go.Bk.Own (fun _ => False) w'' w.heap.size 81 v (l ++ m) ∧ RowKit.Below w.heap.size w w'')) := fun w' hb => by
    have hb2 := hb.alloc hb.size (.cells #[.slice a n c, .slice a2 n2 c2] 40)
    obtain ⟨k1, k2⟩ := HA.out _ hb2
    have hblk := blk_new w' [.slice a n c, .slice a2 n2 c2] 40
    have hlt : ∀ b, S b → b < (w'.alloc (.cells #[.slice a n c, .slice a2 n2 c2] 40)).heap.size := fun b hb' => Nat.lt_of_lt_of_le (hS b hb') hb2.size
    have harr : Arr (fun b => b < (w'.alloc (.cells #[.slice a n c, .slice a2 n2 c2] 40)).heap.size) (w'.alloc (.cells #[.slice a n c, .slice a2 n2 c2] 40)) (some ⟨w'.heap.size, 0, none⟩) [l, m] := by
      refine ⟨by show 2 ≤ _; unfold maxLen; omega, .inr ⟨w'.heap.size, 0, rfl, hblk.lt, fun k x hk => ?_⟩⟩
      match k, hk with
      | 0, hk =>
        obtain rfl := Option.some.inj hk
        refine ⟨[.slice a n c], ⟨a, c, by rw [hn], by rw [hn]; exact hc, hnil, k1.mono hlt⟩, fun j hj => ?_⟩
        have hj0 : j = 0 := by have : j < 1 := hj; omega
        subst hj0
        exact hblk.cell (j := 0) rfl
      | 1, hk =>
        obtain rfl := Option.some.inj hk
        refine ⟨[.slice a2 n2 c2], ⟨a2, c2, by rw [hn2], by rw [hn2]; exact hc2, hnil2, k2.mono hlt⟩, fun j hj => ?_⟩
        have hj0 : j = 0 := by have : j < 1 := hj; omega
        subst hj0
        exact hblk.cell (j := 1) rfl
      | k + 2, hk => simp at hk
    refine (concatE_any (c := 2) (m := 2) rfl harr (fun b hb => hb) (by omega) (by simp; omega)).mono fun e w'' ⟨v, he, ho, hb3⟩ => ⟨v, he, ?_, hb2.trans (hb3.mono hb2.size)⟩
    have e1 : [l, m].flatten = l ++ m := by simp
    rw [e1] at ho
    exact own_base ho hb2.size
  have HSORT : Hid (∀ (w' : World) v, Go.Bk.Own (fun _ => False) w' w.heap.size 81 v (l ++ m) → Calls Try.prog 47 #[v, .func (.func 45) #[] #[]] w' (StabPost w' w.heap.size v (l ++ m))) := fun w' v ho => sortStable_any ho (by rw [List.length_append]; omega)
  clear h h2 hS hn hn2 hsl hsm hbig hc hc2 hnil hnil2
  cases sl
  · have hF : mcode n n2 l m = 3 := by rw [HCODE.out]; rfl
    have HF := Lib.hid hF
    clear hF
    go_enter Try.func18, Try.ntmps18
    go_wp2_with (go_at_call 44; (with_reducible refine (HS1.out _ (RowKit.Below.refl _ _)).mono ?_); rintro e w1 ⟨rfl, hb⟩; have HB := Lib.hid hb; clear hb)
    go_ret2
    exact ⟨_, [], by rw [HF.out]; rfl, Own.nil _ _ _ _, HB.out, fun h => by rw [HF.out] at h; omega, fun _ => rfl⟩
  cases sm
  · have hF : mcode n n2 l m = 3 := by rw [HCODE.out]; rfl
    have HF := Lib.hid hF
    clear hF
    go_enter Try.func18, Try.ntmps18
    go_wp2_with (first
      | (go_at_call 44; (with_reducible refine (HS2.out _ HB.out).mono ?_); rintro e w2 ⟨rfl, hb⟩; have HB2 := Lib.hid (HB.out.trans (hb.mono HB.out.size)); clear hb)
      | (go_at_call 44; (with_reducible refine (HS1.out _ (RowKit.Below.refl _ _)).mono ?_); rintro e w1 ⟨rfl, hb⟩; have HB := Lib.hid hb; clear hb))
    go_ret2
    exact ⟨_, [], by rw [HF.out]; rfl, Own.nil _ _ _ _, HB2.out, fun h => by rw [HF.out] at h; omega, fun _ => rfl⟩
  · have hF : mcode n n2 l m = 0 := by rw [HCODE.out]; rfl
    have HF := Lib.hid hF
    clear hF
    go_enter Try.func18, Try.ntmps18
    go_wp2_with (first
      | (go_at_call 44; (with_reducible refine (HS2.out _ HB.out).mono ?_); rintro e w2 ⟨rfl, hb⟩; have HB2 := Lib.hid (HB.out.trans (hb.mono HB.out.size)); clear hb)
      | (go_at_call 44; (with_reducible refine (HS1.out _ (RowKit.Below.refl _ _)).mono ?_); rintro e w1 ⟨rfl, hb⟩; have HB := Lib.hid hb; clear hb)
      | (go_at_call 46; (with_reducible refine (HCAT.out _ HB2.out).mono ?_); rintro e w3 ⟨v, rfl, ho, hb⟩; have HB3 := Lib.hid hb; have HO := Lib.hid ho; clear hb ho)
      | (go_at_call 47; (with_reducible refine (HSORT.out _ _ HO.out).mono ?_); rintro e w4 ⟨rfl, ys, h1, h2, h3, h4, h5⟩; have HY1 := Lib.hid h1; have HY2 := Lib.hid h2; have HY3 := Lib.hid h3; have HY4 := Lib.hid h4; have HY5 := Lib.hid h5; clear h1 h2 h3 h4 h5))
    go_ret2
    refine ⟨_, ys, by rw [HF.out]; rfl, HY4.out, HB3.out.grown HY5.out HB3.out.size (fun r hr => (HO.out.lt r hr).1), fun _ => ⟨by rw [HY1.out, List.length_append], HY2.out, HY3.out⟩, fun h => absurd HF.out h⟩
set_option maxRecDepth 100000 in
set_option maxHeartbeats 2000000 in
theorem rowsMerges_walk (W : World) (args : Array Value) (h : ArgsSized Try.prog W [40, 40] args.toList) :
    Calls Try.prog 4 args W fun e W' => e = .returned (.bool true) ∧ RowKit.Below W.heap.size W W' := by
  obtain ⟨v0, v1, rfl, r0, r1⟩ := sized_two h
  obtain ⟨a, l, c, rfl, hc, hnil, h0⟩ := r0.read.slice Try.underlying40 Try.opens40
  obtain ⟨a2, m, c2, rfl, hc2, hnil2, h02⟩ := r1.read.slice Try.underlying40 Try.opens40
  have hs1 := r0.len Try.underlying40
  have hs2 := r1.len Try.underlying40
  rw [bytes_ev] at hs1 hs2
  unfold reachBytes at hs1 hs2
  clear r0 r1 h
  obtain ⟨n, hn⟩ : ∃ n, n = l.length := ⟨_, rfl⟩
  obtain ⟨n2, hn2⟩ : ∃ n2, n2 = m.length := ⟨_, rfl⟩
  rw [← hn] at hc hs1 ⊢
  rw [← hn2] at hc2 hs2 ⊢
  have hs1 : n ≤ 1000000000000000 := by omega
  have hs2 : n2 ≤ 1000000000000000 := by omega
  have HM : Hid (Calls Try.prog 18 #[.slice a n c, .slice a2 n2 c2] W (MergePost W n n2 l m)) := merge_any hn.symm hn2.symm h0 h02 (fun b hb => hb) hc hc2 hnil hnil2 hs1 hs2
  have HA : Hid (∀ w', RowKit.Below W.heap.size W w' → Arr (· < W.heap.size) w' a l ∧ Arr (· < W.heap.size) w' a2 m) := fun w' hb => ⟨h0.keep (fun b hb' => hb.block b hb'), h02.keep (fun b hb' => hb.block b hb')⟩
  have HST : Hid (∀ w', RowKit.Below W.heap.size W w' → Calls Try.prog 19 #[.slice a n c] w' (fun e w'' => e = .returned (.bool (stdy l)) ∧ RowKit.Below w'.heap.size w' w'') ∧ Calls Try.prog 19 #[.slice a2 n2 c2] w' (fun e w'' => e = .returned (.bool (stdy m)) ∧ RowKit.Below w'.heap.size w' w'')) := fun w' hb =>
    ⟨(steady_any hn.symm (HA.out w' hb).1).mono fun e w'' ⟨he, hq⟩ => ⟨he, hq.below _⟩, (steady_any hn2.symm (HA.out w' hb).2).mono fun e w'' ⟨he, hq⟩ => ⟨he, hq.below _⟩⟩
  have HRM : Hid (∀ w', RowKit.Below W.heap.size W w' → stdy l = true → stdy m = true → n + n2 ≤ 200 → Calls Try.prog 20 #[.slice a n c, .slice a2 n2 c2] w' fun e w'' => ∃ v ys, e = .returned v ∧ Mgd l m ys ∧ Go.Bk.Own (fun _ => False) w'' w'.heap.size 81 v ys ∧ RowKit.Below w'.heap.size w' w'') := fun w' hb e1 e2 e3 => rmerge_any hn.symm hn2.symm (HA.out w' hb).1 (HA.out w' hb).2 (fun b hb' => Nat.lt_of_lt_of_le hb' hb.size) e1 e2 (by omega)
  -- two slices that hold one list
  have HSE : Hid (∀ (w1 w' : World) (B : Nat) (v1 v2 : Value) (zs : List Api.Event), Go.Bk.Own (fun _ => False) w1 B 81 v1 zs → RowKit.Below w1.heap.size w1 w' → (∀ (aa : Option Addr) (cc k : Nat), v1 = .slice aa k cc → ∀ (S2 : Nat → Prop), (∃ (cc2 : Nat) (aa2 : Option Addr), v2 = .slice aa2 k cc2 ∧ Arr S2 w' aa2 zs) → Calls Try.prog 21 #[v1, v2] w' fun e w'' => e = .returned (.bool true) ∧ RowKit.Below w'.heap.size w' w'')) := fun w1 w' B v1 v2 zs ho hb aa cc k hv S2 ⟨cc2, aa2, hv2, ha2⟩ => by
    obtain ⟨a3, c3, e3, -, -, har⟩ := ho.arr
    subst hv hv2
    injection e3 with e4 e5 e6
    subst e4 e6
    exact (sameE_true e5.symm (har.keep fun b hb' => hb.block b (by rcases hb' with h | h; exact h.elim; exact h.2)) ha2).mono fun e w'' ⟨he, hq⟩ => ⟨he, hq.below _⟩
  have HQ0 : Hid (∀ (w1 : World) av ac, Go.Bk.Own (fun _ => False) w1 W.heap.size 81 (.slice av ([] : List Api.Event).length ac) ([] : List Api.Event) → ∀ w', RowKit.Below w1.heap.size w1 w' → Calls Try.prog 21 #[.slice av 0 ac, .slice none 0 0] w' fun e w'' => e = .returned (.bool true) ∧ RowKit.Below w'.heap.size w' w'') := fun w1 av ac ho w' hb =>
    HSE.out w1 w' _ _ _ [] ho hb av ac 0 rfl (fun _ => True) ⟨0, none, rfl, Arr.nil _ _ _⟩
  have HQ1 : Hid (∀ (w1 : World) av ac (ys : List Api.Event), Go.Bk.Own (fun _ => False) w1 W.heap.size 81 (.slice av ys.length ac) ys → ∀ w' (S2 : Nat → Prop) av2 ac2, RowKit.Below w1.heap.size w1 w' → Arr S2 w' av2 ys → Calls Try.prog 21 #[.slice av ys.length ac, .slice av2 ys.length ac2] w' fun e w'' => e = .returned (.bool true) ∧ RowKit.Below w'.heap.size w' w'') := fun w1 av ac ys ho w' S2 av2 ac2 hb ha =>
    HSE.out w1 w' _ _ _ ys ho hb av ac ys.length rfl S2 ⟨ac2, av2, rfl, ha⟩
  clear h0 h02
  have HNL : Hid (n = l.length ∧ n2 = m.length) := ⟨hn, hn2⟩
  clear hn hn2 hnil hnil2
  have hbase := HM.out
  obtain ⟨cd, hcd⟩ : ∃ cd, cd = mcode n n2 l m := ⟨_, rfl⟩
  have HCD := Lib.hid hcd
  have HM2 : Hid (Calls Try.prog 18 #[.slice a n c, .slice a2 n2 c2] W (fun e w' => ∃ av ac ys, e = .returned (.tuple #[.slice av ys.length ac, .int .i64 cd]) ∧ Go.Bk.Own (fun _ => False) w' W.heap.size 81 (.slice av ys.length ac) ys ∧ RowKit.Below W.heap.size W w' ∧ (cd = 0 → Mgd l m ys) ∧ (cd ≠ 0 → ys = []))) :=
    hbase.mono fun e w' ⟨v, ys, he, ho, hb, h1, h2⟩ => by
      rw [← hcd] at he h1 h2
      obtain ⟨av, ac, rfl, -⟩ := ho.arr
      exact ⟨av, ac, ys, he, ho, hb, h1, h2⟩
  have hee : (cd == cd) = true := by simp
  clear hbase HM hcd
  obtain ⟨sl, hsl⟩ : ∃ sl, stdy l = sl := ⟨_, rfl⟩
  obtain ⟨sm, hsm⟩ : ∃ sm, stdy m = sm := ⟨_, rfl⟩
  rw [hsl, hsm] at HST HRM
  have HCODE : Hid (cd = if 200 < n + n2 then 2 else if sl = true ∧ sm = true then 0 else 3) := by show _ = _; rw [HCD.out]; unfold mcode; rw [hsl, hsm]
  clear hsl hsm HCD
  by_cases hbig : 200 < n + n2
  · have d1 : decide ((200 : Int) < (n : Int) + (n2 : Int)) = true := decide_eq_true (by omega)
    have d2 : (200 : Int) < (n : Int) + (n2 : Int) := by omega
    have hF : cd = 2 := by rw [HCODE.out, if_pos hbig]
    subst hF
    clear hbig
    go_enter Try.func4, Try.ntmps4
    go_wp2_with (first
      | (go_at_call 18; (with_reducible refine HM2.out.mono ?_); rintro e w1 ⟨av, ac, ys, rfl, ho, hb, -, hy⟩; (obtain rfl := hy (by omega)); have HO := Lib.hid ho; have HB := Lib.hid hb; clear ho hb hy)
      | (go_at_call 21; (with_reducible refine (HQ0.out _ _ _ HO.out _ (RowKit.Below.refl _ _)).mono ?_); rintro e w2 ⟨rfl, hb⟩; have HB2 := Lib.hid hb; clear hb))
    go_ret
    exact ⟨rfl, HB.out.trans (HB2.out.mono HB.out.size)⟩
  have d1 : decide ((200 : Int) < (n : Int) + (n2 : Int)) = false := decide_eq_false (by omega)
  have d2 : ¬ (200 : Int) < (n : Int) + (n2 : Int) := by omega
  have HBIG : Hid (n + n2 ≤ 200) := by show _ ≤ _; omega
  have HCODE2 : Hid (cd = if sl = true ∧ sm = true then 0 else 3) := by show _ = _; rw [HCODE.out, if_neg hbig]
  clear hbig HCODE
  cases sl
  · have hF : cd = 3 := by rw [HCODE2.out]; rfl
    subst hF
    go_enter Try.func4, Try.ntmps4
    go_wp2_with (first
      | (go_at_call 18; (with_reducible refine HM2.out.mono ?_); rintro e w1 ⟨av, ac, ys, rfl, ho, hb, -, hy⟩; (obtain rfl := hy (by omega)); have HO := Lib.hid ho; have HB := Lib.hid hb; clear ho hb hy)
      | (go_at_call 19; (with_reducible refine (HST.out _ HB.out).1.mono ?_); rintro e w3 ⟨rfl, hb⟩; have HB3 := Lib.hid hb; clear hb)
      | (go_at_call 21; (with_reducible refine (HQ0.out _ _ _ HO.out _ HB3.out).mono ?_); rintro e w2 ⟨rfl, hb⟩; have HB2 := Lib.hid (HB3.out.trans (hb.mono HB3.out.size)); clear hb))
    go_ret
    exact ⟨rfl, HB.out.trans (HB2.out.mono HB.out.size)⟩
  cases sm
  · have hF : cd = 3 := by rw [HCODE2.out]; rfl
    subst hF
    go_enter Try.func4, Try.ntmps4
    go_wp2_with (first
      | (go_at_call 18; (with_reducible refine HM2.out.mono ?_); rintro e w1 ⟨av, ac, ys, rfl, ho, hb, -, hy⟩; (obtain rfl := hy (by omega)); have HO := Lib.hid ho; have HB := Lib.hid hb; clear ho hb hy)
      | (go_at_call 19; (with_reducible refine (HST.out _ HB4.out).2.mono ?_); rintro e w5 ⟨rfl, hb⟩; have HB5 := Lib.hid (HB3.out.trans (hb.mono HB3.out.size)); clear hb)
      | (go_at_call 19; (with_reducible refine (HST.out _ HB.out).1.mono ?_); rintro e w3 ⟨rfl, hb⟩; have HB3 := Lib.hid hb; have HB4 := Lib.hid (HB.out.trans (hb.mono HB.out.size)); clear hb)
      | (go_at_call 21; (with_reducible refine (HQ0.out _ _ _ HO.out _ HB5.out).mono ?_); rintro e w2 ⟨rfl, hb⟩; have HB2 := Lib.hid (HB5.out.trans (hb.mono HB5.out.size)); clear hb))
    go_ret
    exact ⟨rfl, HB.out.trans (HB2.out.mono HB.out.size)⟩
  · have hF : cd = 0 := by rw [HCODE2.out]; rfl
    subst hF
    have HRM2 := Lib.hid (fun w' hb => HRM.out w' hb rfl rfl HBIG.out)
    go_enter Try.func4, Try.ntmps4
    go_wp2_with (first
      | (go_at_call 18; (with_reducible refine HM2.out.mono ?_); rintro e w1 ⟨av, ac, ys, rfl, ho, hb, hy, -⟩; have HY := Lib.hid (hy rfl); have HO := Lib.hid ho; have HB := Lib.hid hb; clear ho hb hy)
      | (go_at_call 19; (with_reducible refine (HST.out _ HB4.out).2.mono ?_); rintro e w5 ⟨rfl, hb⟩; have HB5 := Lib.hid (HB3.out.trans (hb.mono HB3.out.size)); have HB6 := Lib.hid (HB4.out.trans (hb.mono HB4.out.size)); clear hb)
      | (go_at_call 19; (with_reducible refine (HST.out _ HB.out).1.mono ?_); rintro e w3 ⟨rfl, hb⟩; have HB3 := Lib.hid hb; have HB4 := Lib.hid (HB.out.trans (hb.mono HB.out.size)); clear hb)
      | (go_at_call 20; (with_reducible refine (HRM2.out _ HB6.out).mono ?_); rintro e w7 ⟨v7, zs, rfl, hmg, ho7, hb⟩; (obtain rfl := hmg.one HY.out); (obtain ⟨av7, ac7, rfl, -, -, har7⟩ := ho7.arr); have HA7 := Lib.hid har7; have HB7 := Lib.hid (HB5.out.trans (hb.mono HB5.out.size)); clear hb ho7 hmg har7)
      | (go_at_call 21; (with_reducible refine (HQ1.out _ _ _ _ HO.out _ _ _ _ HB7.out HA7.out).mono ?_); rintro e w2 ⟨rfl, hb⟩; have HB2 := Lib.hid (HB7.out.trans (hb.mono HB7.out.size)); clear hb))
    go_ret
    exact ⟨rfl, HB.out.trans (HB2.out.mono HB.out.size)⟩
end Go.Proofs.Ytjlnaiiajlahgaa.merge
