/- The law PeelDoes: walked. -/
import Derived.Test.YtekofpigmggbbaaDoorQPeelH
set_option linter.unusedVariables false
set_option linter.unusedSimpArgs false
namespace Go.Proofs.YtekofpigmggbbaaDoor.peel
open Go.Bk Go.RowKit Go.Proofs.YtekofpigmggbbaaDoor.ir Go.Proofs.YtekofpigmggbbaaDoor.chk Go.Proofs.YtekofpigmggbbaaDoor.cut Go.Proofs.YtekofpigmggbbaaDoor.pas
attribute [local go_sem ↓] Go.wp_at_zero Go.wp_at_succ

set_option maxRecDepth 100000 in
set_option maxHeartbeats 4000000 in
theorem peelDoes_walk (W : World) (args : Array Value) (h : ArgsRead Tryd.prog W [26, 34] args.toList) (hL : laidMetH Tryd.prog laidL W) :
    Calls Tryd.prog 6 args W fun e W' => e = .returned (.bool true) ∧ Below W.heap.size W W' := by
  obtain ⟨v0, v1, rfl, r0, r1⟩ := h.two
  obtain ⟨cp, p, rfl, hp⟩ := r0.struct Tryd.underlying26 Tryd.opens26
  obtain ⟨ct, t, rfl, ht⟩ := r1.struct Tryd.underlying34 Tryd.opens34
  have hA := asc_of_laid hL
  obtain ⟨S, hS, hp, ht⟩ : ∃ S : Nat → Prop, (∀ b, S b → b < W.heap.size) ∧ Rep.cells S W cp p ∧ Rep.cells S W ct t := ⟨_, fun b hb => hb, hp, ht⟩
  obtain ⟨P, rfl⟩ : ∃ P : Array Value, cp = P.toList := ⟨cp.toArray, by simp⟩
  obtain ⟨T, rfl⟩ : ∃ T : Array Value, ct = T.toList := ⟨ct.toArray, by simp⟩
  rw [show P.toList.toArray = P by simp, show T.toList.toArray = T by simp]
  obtain ⟨a0, nF, c0, hP⟩ := pin_of hp
  obtain ⟨aI, nI, cI, hT⟩ := tin_of ht
  have hsP := hP.size
  have hsT := hT.size
  obtain ⟨w1, hw1⟩ : ∃ w1, w1 = (W.alloc (.cells P 26)).alloc (.cells T 34) := ⟨_, rfl⟩
  obtain ⟨rP, rT, hb1, hz1⟩ := rows2 W P T _ _ w1 hw1
  have HCE : Hid (∀ W', Below w1.heap.size w1 W' → LK S W P T p t aI W') := fun W' hb => by
    have hbw : Below W.heap.size W W' := hb1.trans (hb.mono hb1.size)
    have hk : ∀ b, S b → W'.heap[b]? = W.heap[b]? := fun b hb' => hbw.block b (hS b hb')
    exact ⟨rP.keep (hb.block _ rP.lt), rT.keep (hb.block _ rT.lt), Rep.keep hk hp, Rep.keep hk ht, hT.ins.keep hk, fun b hb' => Nat.lt_of_lt_of_le (hS b hb') hbw.size, hbw, hA.keep hbw⟩
  have HB0 : Hid (Below w1.heap.size w1 w1) := Below.refl _ _
  have HL0 := Lib.hid (HCE.out w1 HB0.out)
  obtain ⟨g, hg⟩ : ∃ g, g = doR p t (peelT t) := ⟨_, rfl⟩
  have HDO : Hid (Calls Tryd.prog 19 #[.agg P, .agg T] w1 (PassOut w1 g)) := by
    rw [hg]
    exact pldo_any HL0.out.rep HL0.out.ret HL0.out.dom HL0.out.asc
  have HPA : Hid (∀ (W' : World) (S2 : Nat → Prop) (C : Array Value), Below w1.heap.size w1 W' → Rep.cells S2 W' C.toList g.1 → (∀ b, S2 b → b < W'.heap.size) → Calls Tryd.prog 15 #[.agg P, .agg T, .agg C, .int .i64 g.2, .func (.func 20) #[] #[]] W' fun e w' => e = .returned (.bool true) ∧ Below W'.heap.size W' w') := fun W' S2 C hb hc h2 => by
    have k := HCE.out W' hb
    rw [hg] at hc ⊢
    exact passed_any (r := peelT t) (F := 20) k.rep k.ret k.dom hc h2 k.asc Tryd.call20 (fun h0 W2 hr2 hd2 => rpeel_any hr2 hd2 (right_all h0))
  obtain ⟨gt, ge⟩ := g
  clear hP hT hp ht hS hA rP rT hb1 h r0 r1 hL hg
  go_enter Tryd.func6, Tryd.ntmps6
  go_upto_region 1 with fail
  rw [← hw1]
  clear hw1
  go_wp2_with (first
    | (with_reducible refine ldP rfl rfl rfl HL0.out.rp hsP ?_)
    | (with_reducible refine ldT rfl rfl rfl HL0.out.rt hsT ?_)
    | (go_at_call 19; (with_reducible refine HDO.out.mono ?_); rintro e w3 ⟨C, hC1, hC2, rfl, hr3, hb3⟩; have HC1 := Lib.hid hC1; have HC2 := Lib.hid hC2; have HO3 : Hid (Row (w3.alloc (.cells #[.int .i64 0, .int .i64 0, .int .i64 0, .slice none 0 0, .slice none 0 0, .int .i64 0, .int .i64 0, .slice none 0 0, .slice none 0 0, .int .i64 0, .int .i64 0, .slice none 0 0, .slice none 0 0] 34)) w3.heap.size 34 #[.int .i64 0, .int .i64 0, .int .i64 0, .slice none 0 0, .slice none 0 0, .int .i64 0, .int .i64 0, .slice none 0 0, .slice none 0 0, .int .i64 0, .int .i64 0, .slice none 0 0, .slice none 0 0]) := row_new _ _ _; have HX3 : Hid (Row ((w3.alloc (.cells #[.int .i64 0, .int .i64 0, .int .i64 0, .slice none 0 0, .slice none 0 0, .int .i64 0, .int .i64 0, .slice none 0 0, .slice none 0 0, .int .i64 0, .int .i64 0, .slice none 0 0, .slice none 0 0] 34)).setRow w3.heap.size C) w3.heap.size 34 C) := setRow_heap _ _ _ _ _ _ HO3.out; have hbx : Below w1.heap.size w1 ((w3.alloc (.cells #[.int .i64 0, .int .i64 0, .int .i64 0, .slice none 0 0, .slice none 0 0, .int .i64 0, .int .i64 0, .slice none 0 0, .slice none 0 0, .int .i64 0, .int .i64 0, .slice none 0 0, .slice none 0 0] 34)).setRow w3.heap.size C) := below_setRow (hb3.alloc hb3.size _) hb3.size _; have HBX := Lib.hid hbx; have HLX := Lib.hid (HCE.out _ hbx); have hss : ((w3.alloc (.cells #[.int .i64 0, .int .i64 0, .int .i64 0, .slice none 0 0, .slice none 0 0, .int .i64 0, .int .i64 0, .slice none 0 0, .slice none 0 0, .int .i64 0, .int .i64 0, .slice none 0 0, .slice none 0 0] 34)).setRow w3.heap.size C).heap.size = w3.heap.size + 1 := (by simp [World.setRow]); have HPX := Lib.hid (HPA.out _ (Fresh w1 w3) C hbx (Rep.keep (fun b hb => (setRow_other _ _ _ _ (by have := hb.2; omega)).trans (Below.heap_alloc _ _ _ hb.2)) hr3) (fun b hb => by rw [hss]; have := hb.2; omega)); clear hC1 hC2 hr3 hb3 hbx hss)
    | (with_reducible refine stT (OLD := #[.int .i64 0, .int .i64 0, .int .i64 0, .slice none 0 0, .slice none 0 0, .int .i64 0, .int .i64 0, .slice none 0 0, .slice none 0 0, .int .i64 0, .int .i64 0, .slice none 0 0, .slice none 0 0]) (C := C) rfl rfl rfl rfl HO3.out HC1.out rfl HC2.out ?_)
    | (with_reducible refine ldP rfl rfl rfl HLX.out.rp hsP ?_)
    | (with_reducible refine ldT rfl rfl rfl HLX.out.rt hsT ?_)
    | (with_reducible refine ldT rfl rfl rfl HX3.out HC1.out ?_)
    | (go_at_call 15; (with_reducible refine HPX.out.mono ?_); rintro e w5 ⟨rfl, hb5⟩; have HB5 := Lib.hid (HBX.out.trans (hb5.mono HBX.out.size)); clear hb5))
  go_ret
  exact ⟨rfl, (HCE.out _ HB5.out).below⟩
end Go.Proofs.YtekofpigmggbbaaDoor.peel
