/- Min, where the answer is always no, or always yes, walked. -/
import Derived.Test.YtimlhjjdaggiiaaSmallD
set_option linter.unusedVariables false
set_option linter.unusedSimpArgs false
namespace Go.Proofs.Ytimlhjjdaggiiaa.small
open Go.Bk Go.RowKit

theorem Only2.only1 {w w' : World} {ga : Nat} {o : Obj} (h : Only2 w.heap.size ga (w.alloc o) w') : Only w.heap.size ga w w' :=
  ⟨h.os, h.tape, h.output, Nat.le_trans (by simp) h.size, fun b hb hn => (h.block b (by simp; omega) (by omega) hn).trans (Below.heap_alloc _ _ _ hb)⟩
theorem ASt.box {w : World} {ga gn : Nat} {nv : Bool} (ha : Blk w ga 3 [.int .i64 0]) (hn : Blk w gn 4 [.bool nv]) (h : gn ≠ ga) : ASt (w.alloc (.cells #[qfn ga gn, .int .i64 0] 196)) w.heap.size ga gn nv 0 :=
  ⟨blk_new w [qfn ga gn, .int .i64 0] 196, ha.keep (Below.heap_alloc _ _ _ ha.lt), hn.keep (Below.heap_alloc _ _ _ hn.lt), fun e => by have := ha.lt; omega, fun e => by have := hn.lt; omega, h⟩

theorem eql_nil (w : World) : (binOp .eql 100 .nilFunc .nilFunc).run Try.prog w = .ok (.bool true) w := by kernel_rfl
theorem eql_fn (w : World) (ga gn : Nat) : (binOp .eql 100 (qfn ga gn) .nilFunc).run Try.prog w = .ok (.bool false) w := by kernel_rfl

def MinNo (ga : Nat) (w : World) (e : Ending) (w' : World) : Prop := e = .returned (.tuple #[.slice none 0 0, .int .i64 0, .int .i64 8]) ∧ Only w.heap.size ga w w'
def MinYes (ga : Nat) (w : World) (e : Ending) (w' : World) : Prop := ∃ (a : Option Addr) (c n : Nat), e = .returned (.tuple #[.slice a 0 c, .int .i64 n, .int .i64 0]) ∧ Blk w' ga 3 [.int .i64 n] ∧ Only w.heap.size ga w w'

set_option maxRecDepth 100000 in
theorem min_large {w : World} {a : Option Addr} {c n : Nat} {f : Value} (h : 200 < n) (hn : n ≤ 9223372036854775807) :
    Calls Try.prog 51 #[.slice a n c, f] w fun e w' => e = .returned (.tuple #[.slice none 0 0, .int .i64 0, .int .i64 2]) ∧ w = w' := by
  go_enter Try.func51, Try.ntmps51
  go_wp2
  go_ret3
  exact ⟨rfl, rfl⟩
set_option maxRecDepth 100000 in
theorem min_nil {w : World} {a : Option Addr} {c n ga gn : Nat} (h : n ≤ 200) :
    Calls Try.prog 51 #[.slice a n c, .nilFunc] w fun e w' => e = .returned (.tuple #[.slice none 0 0, .int .i64 0, .int .i64 8]) ∧ w = w' := by
  have hd : decide (200 < (n : Int)) = false := decide_eq_false (by omega)
  have e1 := eql_nil
  have e2 := fun w => eql_fn w ga gn
  go_enter Try.func51, Try.ntmps51
  go_wp2
  go_ret3
  exact ⟨rfl, rfl⟩
set_option maxRecDepth 100000 in
set_option maxHeartbeats 1000000 in
theorem min_no {S : Nat → Prop} {w : World} {a : Option Addr} {c n ga gn : Nat} {l : List Int} (hn : l.length = n) (h : Arr S w a l) (hnil : a = none → c = 0) (hS : ∀ b, S b → b < w.heap.size ∧ b ≠ ga) (ha : Blk w ga 3 [.int .i64 0]) (hb : Blk w gn 4 [.bool true]) (hne : gn ≠ ga) (hl : n ≤ 200) :
    Calls Try.prog 51 #[.slice a n c, qfn ga gn] w (MinNo ga w) := by
  have hst := ASt.box ha hb hne
  have hak := ask_any (c := c) hn (h.keep (w' := w.alloc (.cells #[qfn ga gn, .int .i64 0] 196)) (fun b hb => Below.heap_alloc _ _ _ (hS b hb).1)) hnil (fun b hb => ⟨by have := (hS b hb).1; simp; omega, by have := (hS b hb).1; omega, (hS b hb).2⟩) hst (by omega) hl
  have HAK := Lib.hid hak
  clear hst hak ha hb h hn hnil
  have hd : decide (200 < (n : Int)) = false := decide_eq_false (by omega)
  have e1 := eql_nil
  have e2 := fun w => eql_fn w ga gn
  go_enter Try.func51, Try.ntmps51
  go_wp2_with fail
  refine HAK.out.mono ?_
  rintro e w3 ⟨rfl, hs3, ho3⟩
  have HO3 := Lib.hid ho3
  clear hs3 ho3 HAK
  go_wp2_with fail
  go_ret3
  exact ⟨rfl, HO3.out.only1⟩

def minRel (gk ga gn L : Nat) (wb : World) (out sz : Value) (w' : World) : Prop :=
  ∃ (l : List Int) (s n : Nat), sz = .int .i64 s ∧ s ≤ 200 ∧ l.length ≤ 200 ∧ n + l.length ≤ 1 + L ∧ LiesAt gk ga gn w' out l ∧ ASt w' gk ga gn false n ∧ Only2 gk ga wb w'
def minEnd (gk ga gn L : Nat) (wb : World) (out : Value) (w' : World) : Prop :=
  ∃ (l : List Int) (n : Nat), l.length ≤ 200 ∧ n + l.length ≤ 1 + L ∧ LiesAt gk ga gn w' out l ∧ ASt w' gk ga gn false n ∧ Only2 gk ga wb w'
def lenOf : Value → Nat
  | .slice _ n _ => n
  | _ => 0

set_option maxRecDepth 100000 in
set_option maxHeartbeats 2000000 in
theorem min_yes {S : Nat → Prop} {w : World} {a : Option Addr} {c L ga gn : Nat} {l : List Int} (hn : l.length = L) (h : Arr S w a l) (hnil : a = none → c = 0) (hS : ∀ b, S b → b < w.heap.size ∧ b ≠ ga) (ha : Blk w ga 3 [.int .i64 0]) (hb : Blk w gn 4 [.bool false]) (hne : gn ≠ ga) (hl : L ≤ 200) :
    Calls Try.prog 51 #[.slice a L c, qfn ga gn] w (MinYes ga w) := by
  have hst := ASt.box ha hb hne
  have hS2 : ∀ b, S b → b < (w.alloc (.cells #[qfn ga gn, .int .i64 0] 196)).heap.size ∧ b ≠ w.heap.size ∧ b ≠ ga := fun b hb => ⟨by have := (hS b hb).1; simp; omega, by have := (hS b hb).1; omega, (hS b hb).2⟩
  have harr := h.keep (w' := w.alloc (.cells #[qfn ga gn, .int .i64 0] 196)) (fun b hb => Below.heap_alloc _ _ _ (hS b hb).1)
  have hak := ask_any (c := c) hn harr hnil hS2 hst (by omega) hl
  have HAK := Lib.hid hak; have HN := Lib.hid hn; have HNI := Lib.hid hnil; have HS2 := Lib.hid hS2; have HAR := Lib.hid harr
  have hgw : w.heap.size < (w.alloc (.cells #[qfn ga gn, .int .i64 0] 196)).heap.size := by simp
  have hgaw := ha.lt
  clear hst hak ha hb h hn hnil harr hS2 hS
  have hd : decide (200 < (L : Int)) = false := decide_eq_false (by omega)
  have e2 := fun w => eql_fn w ga gn
  go_enter Try.func51, Try.ntmps51
  go_wp2_with fail
  clear e2
  refine HAK.out.mono ?_
  generalize hwb : w.alloc (.cells #[qfn ga gn, .int .i64 0] 196) = wb at *
  have HWB := Lib.hid hwb
  rintro e w1 ⟨rfl, hs1, ho1⟩
  have HS1 := Lib.hid hs1; have HO1 := Lib.hid ho1
  have hgk : w.heap.size < w1.heap.size := Nat.lt_of_lt_of_le hgw ho1.size
  have hga1 : ga < w1.heap.size := by omega
  have hcl := cloneI_any (w := w1) (c := c) HN.out (HAR.out.keep (fun b hb => ho1.block b (HS2.out b hb).1 (HS2.out b hb).2.1 (HS2.out b hb).2.2)) HNI.out (fun b hb => Nat.lt_of_lt_of_le (HS2.out b hb).1 ho1.size) (by omega)
  have HCL := Lib.hid hcl
  clear hs1 ho1 HAK hcl hwb
  go_wp2_with fail
  refine HCL.out.mono ?_
  rintro e w2 ⟨v2, rfl, hown, hb2⟩
  have HLI : Hid (LiesAt w.heap.size ga gn w2 v2 l) := LiesAt.own hown hgk hga1
  have HST2 : Hid (ASt w2 w.heap.size ga gn false 1) := HS1.out.below hb2
  have HON2 : Hid (Only2 w.heap.size ga wb w2) := HO1.out.trans (Only2.of_below hb2)
  clear hown hb2 HCL
  go_wp2_with fail
  generalize hgkk : w.heap.size = gk at *
  go_loopw [8, 9] (minRel gk ga gn L wb) (fun _ s _ => (intOf s).toNat)
  case atStart => exact ⟨l, L / 2, 1, by first | rfl | go_num, by omega, by rw [HN.out]; exact hl, by rw [HN.out]; exact Nat.le_refl _, HLI.out, HST2.out, HON2.out⟩
  case round =>
    obtain ⟨l1, s, n1, rfl, hs, hl1, hn1, hli, hst1, hon1⟩ := hrel
    have HL1 := Lib.hid hli; have HS1' := Lib.hid hst1; have HON1 := Lib.hid hon1
    clear hli hst1 hon1 HLI HST2 HON2
    by_cases h1 : 1 < s
    · have hd1 : decide (1 < (s : Int)) = true := decide_eq_true (by omega)
      have HP := Lib.hid (pass_any HL1.out HS1'.out (by omega) hl1 (s := s) (by omega) hs)
      go_wp2_with fail
      refine HP.out.mono ?_
      rintro e w3 ⟨v3, n3, rfl, hn3, hn4, hli3, hst3, hon3⟩
      have HL3 := Lib.hid hli3; have HS3 := Lib.hid hst3; have HON3 := Lib.hid (HON1.out.trans hon3)
      clear hli3 hst3 hon3 HP
      go_wp2_with fail
      go_roundw
      case rel => exact ⟨[], s / 2, n3, by first | rfl | go_num, by omega, by simp, by simp; omega, HL3.out, HS3.out, HON3.out⟩
      case measure => simp [intOf] <;> omega
    · have hd1 : decide (1 < (s : Int)) = false := decide_eq_false (by omega)
      go_wp2_with fail
      go_loopw [8] (minEnd gk ga gn L wb) (fun out _ => lenOf out)
      case atStart => exact ⟨l1, n1, hl1, hn1, HL1.out, HS1'.out, HON1.out⟩
      case round =>
        obtain ⟨l2, n2, hl2, hn2, hli, hst2, hon2⟩ := hrel
        have HL2 := Lib.hid hli; have HS2' := Lib.hid hst2; have HON2 := Lib.hid hon2
        obtain ⟨a2, c2, rfl, -, -, -, -⟩ := hli
        clear hst2 hon2 HL1 HS1' HON1
        obtain ⟨m, hm⟩ : ∃ m, m = l2.length := ⟨_, rfl⟩
        have hp := pass_any HL2.out HS2'.out (by omega) hl2 (s := 1) (by omega) (by omega)
        rw [← hm] at hl2 hn2 hp; rw [← hm]
        have HP := Lib.hid hp
        clear hp hm HL2 HS2'
        go_wp2_with fail
        refine HP.out.mono ?_
        rintro e w3 ⟨v3, n3, rfl, hn3, hn4, hli3, hst3, hon3⟩
        have HL3 := Lib.hid hli3; have HS3 := Lib.hid hst3; have HON3 := Lib.hid (HON2.out.trans hon3)
        obtain ⟨a3, c3, rfl, -, -, -, -⟩ := hli3
        clear hst3 hon3 HP
        by_cases h0 : m = 0
        · subst h0
          have hz : (([] : List Int).length : Int) = 0 := rfl
          have c1 : w3.cell? ⟨gk, 1, none⟩ = some (.int .i64 n3) := HS3.out.k.cell rfl
          go_wp2_with fail
          go_quiet (fail)
          go_wp2_with fail
          go_ret3
          refine ⟨a3, c3, n3, rfl, Blk.keep (w := w3) rfl HS3.out.a, ?_⟩
          have := HON3.out
          rw [← HWB.out] at this
          subst hgkk
          have h4 := this.only1
          exact ⟨h4.os, h4.tape, h4.output, h4.size, h4.block⟩
        · have hz : (([] : List Int).length == m) = false := by simp; omega
          have hz2 : ((0 : Int) == (m : Int)) = false := by simp; omega
          go_wp2_with fail
          go_roundw
          case rel => exact ⟨[], n3, by simp, by simp; omega, HL3.out, HS3.out, HON3.out⟩
          case measure => simp [lenOf] <;> omega
end Go.Proofs.Ytimlhjjdaggiiaa.small
