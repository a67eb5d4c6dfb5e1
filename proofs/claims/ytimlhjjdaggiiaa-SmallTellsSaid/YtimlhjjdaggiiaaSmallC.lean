/- The asker asks; a pass of stretches that are left out. -/
import Derived.Test.YtimlhjjdaggiiaaSmallB
import Derived.Deep.RegionHeld3
set_option linter.unusedVariables false
set_option linter.unusedSimpArgs false
namespace Go.Proofs.Ytimlhjjdaggiiaa.small
open Go.Bk Go.RowKit

abbrev qfn (ga gn : Nat) : Value := .func (.func 50) #[] #[.pointer (some ⟨ga, 0, none⟩), .pointer (some ⟨gn, 0, none⟩)]
/-- The asker's and the question's blocks: both count n. -/
structure ASt (w : World) (gk ga gn : Nat) (nv : Bool) (n : Nat) : Prop where
  k : Blk w gk 196 [qfn ga gn, .int .i64 n]
  a : Blk w ga 3 [.int .i64 n]
  n : Blk w gn 4 [.bool nv]
  ka : gk ≠ ga
  kn : gk ≠ gn
  an : gn ≠ ga
theorem ASt.keep {w w' : World} {gk ga gn : Nat} {nv : Bool} {n : Nat} (h : ASt w gk ga gn nv n) (hk : ∀ b, b = gk ∨ b = ga ∨ b = gn → w'.heap[b]? = w.heap[b]?) : ASt w' gk ga gn nv n :=
  ⟨h.k.keep (hk _ (.inl rfl)), h.a.keep (hk _ (.inr (.inl rfl))), h.n.keep (hk _ (.inr (.inr rfl))), h.ka, h.kn, h.an⟩
theorem ASt.below {w w' : World} {gk ga gn : Nat} {nv : Bool} {n : Nat} (h : ASt w gk ga gn nv n) (hb : Below w.heap.size w w') : ASt w' gk ga gn nv n :=
  h.keep (fun b hb' => hb.block b (by
    rcases hb' with rfl | rfl | rfl
    · exact h.k.lt
    · exact h.a.lt
    · exact h.n.lt))
/-- Of what was there nothing is turned but the two counters. -/
structure Only2 (gk ga : Nat) (w w' : World) : Prop where
  os : w'.os = w.os
  tape : w'.tape = w.tape
  output : w'.output = w.output
  size : w.heap.size ≤ w'.heap.size
  block : ∀ b, b < w.heap.size → b ≠ gk → b ≠ ga → w'.heap[b]? = w.heap[b]?
theorem Only2.refl (gk ga : Nat) (w : World) : Only2 gk ga w w := ⟨rfl, rfl, rfl, Nat.le_refl _, fun _ _ _ _ => rfl⟩
theorem Only2.trans {gk ga : Nat} {a b c : World} (h : Only2 gk ga a b) (h' : Only2 gk ga b c) : Only2 gk ga a c := ⟨h'.os.trans h.os, h'.tape.trans h.tape, h'.output.trans h.output, Nat.le_trans h.size h'.size, fun k hk h1 h2 => (h'.block k (Nat.lt_of_lt_of_le hk h.size) h1 h2).trans (h.block k hk h1 h2)⟩
theorem Only2.of_below {gk ga : Nat} {a b : World} (h : Below a.heap.size a b) : Only2 gk ga a b := ⟨h.os, h.tape, h.output, h.size, fun k hk _ _ => h.block k hk⟩
theorem Only2.set {gk ga : Nat} {a b : World} (h : Only2 gk ga a b) {k j : Nat} (hk : k = gk ∨ k = ga) (v : Value) : Only2 gk ga a (b.setCell ⟨k, j, none⟩ v) :=
  ⟨h.os, h.tape, h.output, by simpa [World.setCell] using h.size, fun i hi h1 h2 => by
    rw [← h.block i hi h1 h2]
    simp only [World.setCell]
    rw [Array.getElem?_modify, if_neg (by omega)]⟩
theorem Only2.only {gk ga B : Nat} {a b c : World} (h : Only2 gk ga a b) (h' : Only B ga b c) (hB : a.heap.size ≤ B) : Only2 gk ga a c :=
  ⟨h'.os.trans h.os, h'.tape.trans h.tape, h'.output.trans h.output, Nat.le_trans h.size h'.size, fun k hk h1 h2 => (h'.block k (Nat.lt_of_lt_of_le hk hB) h2).trans (h.block k hk h1 h2)⟩

theorem holds_at {w : World} {v : Value} {B ga gn : Nat} {xs : List Int} {n : Nat} {nv : Bool} (h : Own (fun _ => False) w B 3 v xs) (hga : Blk w ga 3 [.int .i64 n]) (hgn : Blk w gn 4 [.bool nv]) (ha : ga < B) (hn : gn < B) (hne : gn ≠ ga) (hb : n < 1000000000) (hl : xs.length ≤ 200) :
    Calls Try.prog 50 #[v, .pointer (some ⟨ga, 0, none⟩), .pointer (some ⟨gn, 0, none⟩)] w fun e w' => e = .returned (.bool (!nv)) ∧ Blk w' ga 3 [.int .i64 ((n + 1 : Nat) : Int)] ∧ Only B ga w w' := holds_any h hga hgn ha hn hne hb hl

def AskPost (gk ga gn : Nat) (nv : Bool) (n : Nat) (w : World) (e : Ending) (w' : World) : Prop := e = .returned (.bool (!nv)) ∧ ASt w' gk ga gn nv (n + 1) ∧ Only2 gk ga w w'

set_option maxRecDepth 100000 in
set_option maxHeartbeats 1000000 in
theorem ask_any {S : Nat → Prop} {w : World} {a : Option Addr} {c m gk ga gn n : Nat} {xs : List Int} {nv : Bool} (hm : xs.length = m) (h : Arr S w a xs) (hnil : a = none → c = 0) (hS : ∀ b, S b → b < w.heap.size ∧ b ≠ gk ∧ b ≠ ga) (hst : ASt w gk ga gn nv n) (hn : n < 1000000) (hl : m ≤ 200) :
    Calls Try.prog 115 #[.pointer (some ⟨gk, 0, none⟩), .slice a m c] w (AskPost gk ga gn nv n w) := by
  have c1 : w.cell? ⟨gk, 1, none⟩ = some (.int .i64 n) := hst.k.cell rfl
  have f1 : w.frozen? ⟨gk, 1, none⟩ = false := hst.k.frozen 1
  have hw : IntKind.i64.wrap ((n : Int) + 1) = (n : Int) + 1 := IntWalk.i64_in _ (by omega)
  have hgk := hst.k.lt; have hga := hst.a.lt; have hgn := hst.n.lt
  have HST := Lib.hid hst; have HA := Lib.hid h; have HNI := Lib.hid hnil; have HM := Lib.hid hm; have HS := Lib.hid hS
  clear hst h hnil hm hS
  go_enter Try.func115, Try.ntmps115
  go_wp2_with fail
  clear c1 f1
  refine cut_wp (fun wz => wz = w.setCell ⟨gk, 1, none⟩ (.int .i64 ((n : Int) + 1))) rfl ?_
  intro wz hwz
  have hblk : Blk wz gk 196 [qfn ga gn, .int .i64 ((n + 1 : Nat) : Int)] := by
    have := HST.out.k.set 1 (.int .i64 ((n : Int) + 1))
    rw [hwz]
    simpa using this
  have hsz : wz.heap.size = w.heap.size := by rw [hwz]; simp [World.setCell]
  have HO : Hid (Only2 gk ga w wz) := by rw [hwz]; exact (Only2.refl _ _ _).set (.inl rfl) _
  have HBK := Lib.hid hblk
  have c0 : wz.cell? ⟨gk, 0, none⟩ = some (qfn ga gn) := hblk.cell rfl
  have HA2 : Hid (Arr S wz a xs) := HA.out.keep (fun b hb => HO.out.block b (HS.out b hb).1 (HS.out b hb).2.1 (HS.out b hb).2.2)
  have HGA : Hid (Blk wz ga 3 [.int .i64 n]) := HST.out.a.keep (by rw [hwz]; simp only [World.setCell]; rw [Array.getElem?_modify, if_neg (fun e => HST.out.ka e)])
  have HGN : Hid (Blk wz gn 4 [.bool nv]) := HST.out.n.keep (by rw [hwz]; simp only [World.setCell]; rw [Array.getElem?_modify, if_neg (fun e => HST.out.kn e)])
  have HSZ := Lib.hid hsz
  clear hwz hblk hsz
  have hcl := cloneI_any (w := wz.drew) HM.out (Arr.keep (w := wz) (fun _ _ => rfl) HA2.out) HNI.out (fun b hb => by have := (HS.out b hb).1; show b < wz.heap.size; rw [HSZ.out]; exact this) (c := c) (by omega)
  have HCL := Lib.hid hcl
  have HGB : Hid (ga < wz.heap.size ∧ gn < wz.heap.size) := by show _ ∧ _; rw [HSZ.out]; exact ⟨hga, hgn⟩
  clear hcl
  go_region_held3 (fun w' => w'.cell? ⟨gk, 0, none⟩ = some (qfn ga gn)) (first | exact c0 | exact c02 | exact c03)
    (first
      | (go_at_call 116; refine HCL.out.mono ?_; rintro e w2 ⟨v2, rfl, hown, hb⟩; have HOW : Hid (Own (fun _ => False) w2 wz.heap.size 3 v2 xs) := hown; have hb0 := (Below.refl wz.heap.size wz).drew.trans hb; have HB2 := Lib.hid hb0; have c02 : w2.cell? ⟨gk, 0, none⟩ = some (qfn ga gn) := (hb0.cell (p := ⟨gk, 0, none⟩) (by rw [HSZ.out]; exact hgk)).trans c0; clear hb0; clear hown hb)
      | (go_at_call 50; (refine (holds_at (B := wz.heap.size) HOW.out (HGA.out.below HB2.out (HGB.out.1)) (HGN.out.below HB2.out HGB.out.2) HGB.out.1 HGB.out.2 HST.out.an (by omega) (by rw [HM.out]; exact hl)).mono ?_); rintro e w3 ⟨rfl, hg3, ho3⟩; have HG3 := Lib.hid hg3; have HO3 := Lib.hid ho3; have c03 : w3.cell? ⟨gk, 0, none⟩ = some (qfn ga gn) := (World.cell?_of_block (w := w2) (ho3.block gk (by rw [HSZ.out]; exact hgk) HST.out.ka)).trans c02; clear hg3 ho3))
  all_goals
    go_wp2_with fail
    go_ret
    refine ⟨rfl, ⟨((HBK.out.keep (HB2.out.block gk (by show gk < wz.heap.size; rw [HSZ.out]; exact hgk))).keep (HO3.out.block gk (by rw [HSZ.out]; exact hgk) HST.out.ka)), HG3.out, ((HGN.out.keep (HB2.out.block gn HGB.out.2)).keep (HO3.out.block gn HGB.out.2 HST.out.an)), HST.out.ka, HST.out.kn, HST.out.an⟩, ?_⟩
    exact (HO.out.trans (Only2.of_below HB2.out)).only HO3.out (by rw [HSZ.out]; exact Nat.le_refl _)
end Go.Proofs.Ytimlhjjdaggiiaa.small
