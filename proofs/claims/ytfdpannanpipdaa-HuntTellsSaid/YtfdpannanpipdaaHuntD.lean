/- HuntTells: Suspects, Pick and Hunt: walked. -/
import Derived.Test.YtfdpannanpipdaaHuntC
set_option linter.unusedVariables false
set_option linter.unusedSimpArgs false
namespace Go.Proofs.Ytfdpannanpipdaa.hunt
open Go.Bk Go.RowKit slice

theorem run_equalIn_func_nil {P : Program} (w : World) (d : Nat) {t : TypeId} {ps rs : Array TypeId} {v : Bool} (h : P.underlying t = some (.func ps rs v)) (f : Fn) (ts caps : Array Value) : (Op.equalIn (d + 1) t (.func f ts caps) .nilFunc).run P w = .ok false w := by
  simp [Op.equalIn, run_underlying h]
theorem run_eql_func_nil {P : Program} (w : World) {t : TypeId} {ps rs : Array TypeId} {v : Bool} (h : P.underlying t = some (.func ps rs v)) (f : Fn) (ts caps : Array Value) : (binOp .eql t (.func f ts caps) .nilFunc).run P w = .ok (.bool false) w := by
  simp only [binOp]
  simp [Op.equal, Op.maxDepth, run_equalIn_func_nil w 9999 h f ts caps]
theorem run_equalIn_nil_nil {P : Program} (w : World) (d : Nat) {t : TypeId} {ps rs : Array TypeId} {v : Bool} (h : P.underlying t = some (.func ps rs v)) : (Op.equalIn (d + 1) t .nilFunc .nilFunc).run P w = .ok true w := by
  simp [Op.equalIn, run_underlying h]
theorem run_eql_nil_nil {P : Program} (w : World) {t : TypeId} {ps rs : Array TypeId} {v : Bool} (h : P.underlying t = some (.func ps rs v)) : (binOp .eql t .nilFunc .nilFunc).run P w = .ok (.bool true) w := by
  simp only [binOp]
  simp [Op.equal, Op.maxDepth, run_equalIn_nil_nil w 9999 h]
open Classical in
noncomputable def susOf (l : List Api.DDep) (bad : Int) (good : List Int) : List Int := if huntErr l bad good = 0 then susL l bad.toNat (good.map Int.toNat) else []
open Classical in
noncomputable def pickOf (l : List Api.DDep) (bad : Int) (good : List Int) : Int := if huntErr l bad good = 0 then pick l bad.toNat (good.map Int.toNat) else -1
theorem errOf_of_hunt {l : List Api.DDep} {bad : Int} {good : List Int} (h : huntErr l bad good = 0) : errOf l (bad :: good) = 0 ∧ sus l bad.toNat (good.map Int.toNat) bad.toNat = true := by
  by_cases h0 : errOf l (bad :: good) = 0
  · refine ⟨h0, ?_⟩
    rw [huntErr_sus h0] at h
    by_cases hs : sus l bad.toNat (good.map Int.toNat) bad.toNat = true
    · exact hs
    · rw [if_neg hs] at h; omega
  · rw [huntErr_bad h0] at h; exact absurd h h0

set_option maxRecDepth 100000 in
theorem ssuspects_any {S S2 : Nat → Prop} {w : World} {a a2 : Option Addr} {c c2 n n2 ns : Nat} {E : Int} {l : List Api.DDep} {bad : Int} {good : List Int} (hn : l.length = n) (hn2 : good.length = n2) (h : Arr S w a l) (h2 : Arr S2 w a2 good) (hS : ∀ b, S b → b < w.heap.size) (hS2 : ∀ b, S2 b → b < w.heap.size) (hb : I64 bad) (hE : huntErr l bad good = E) (hns : (susOf l bad good).length = ns) :
    Calls Try.prog 32 #[.slice a n c, .int .i64 bad, .slice a2 n2 c2] w fun e w' => (∃ a' c', e = .returned (.tuple #[.slice a' ns c', .int .i64 E]) ∧ Arr (fun b => w.heap.size ≤ b ∧ b < w'.heap.size) w' a' (susOf l bad good)) ∧ Below w.heap.size w w' := by
  have HA := Lib.hid (asked_any (c := c) (c2 := c2) hn hn2 h h2 hS hS2 hb hE)
  have HE := Lib.hid hE; have HNS := Lib.hid hns
  clear h h2 hn hn2 hE hns hb
  go_enter Try.func32, Try.ntmps32
  go_wp2_with fail
  refine HA.out.mono ?_
  rintro e w1 ⟨hb1, ⟨h0, rfl⟩ | ⟨h0, hp, a3, k3, c3, rfl, hH, hown⟩⟩
  · have HB1 := Lib.hid hb1; have H0 := Lib.hid h0
    clear hb1 h0
    have hso : Hid (susOf l bad good = []) := by show _ = _; unfold susOf; rw [if_neg (by rw [HE.out]; exact H0.out)]
    have hn0 : ns = 0 := by rw [← HNS.out, hso.out]; rfl
    subst hn0
    go_wp2_with fail
    go_ret2
    exact ⟨⟨none, 0, rfl, by rw [hso.out]; exact Arr.nil _ _ _⟩, HB1.out⟩
  · subst h0
    have HB1 := Lib.hid hb1
    have hso : Hid (susOf l bad good = susL l bad.toNat (good.map Int.toNat)) := by show _ = _; unfold susOf; rw [if_pos HE.out]
    obtain ⟨harr, hk, -, -⟩ := num.arr_of_own hown
    have HAR := Lib.hid harr
    have hkn : k3 = ns := by rw [← HNS.out, hso.out, hk]
    subst hkn
    clear hb1 hH hown harr hk
    go_wp2_with fail
    go_ret2
    exact ⟨⟨_, _, rfl, by rw [hso.out]; exact HAR.out.mono (fun b hb => hb.elim False.elim id)⟩, HB1.out⟩

set_option maxRecDepth 100000 in
theorem ppick_any {S S2 : Nat → Prop} {w : World} {a a2 : Option Addr} {c c2 n n2 : Nat} {E P : Int} {l : List Api.DDep} {bad : Int} {good : List Int} (hn : l.length = n) (hn2 : good.length = n2) (h : Arr S w a l) (h2 : Arr S2 w a2 good) (hS : ∀ b, S b → b < w.heap.size) (hS2 : ∀ b, S2 b → b < w.heap.size) (hb : I64 bad) (hE : huntErr l bad good = E) (hP : pickOf l bad good = P) :
    Calls Try.prog 33 #[.slice a n c, .int .i64 bad, .slice a2 n2 c2] w fun e w' => e = .returned (.tuple #[.int .i64 (if P < 0 then 0 else P), .bool (decide (0 ≤ P)), .int .i64 E]) ∧ Below w.heap.size w w' := by
  have HA := Lib.hid (asked_any (c := c) (c2 := c2) hn hn2 h h2 hS hS2 hb hE)
  have HE := Lib.hid hE; have HP := Lib.hid hP; have HN := Lib.hid hn
  clear h h2 hn hn2 hE hP hb
  go_enter Try.func33, Try.ntmps33
  go_wp2_with fail
  refine HA.out.mono ?_
  rintro e w1 ⟨hb1, ⟨h0, rfl⟩ | ⟨h0, hp, a3, k3, c3, rfl, hH, hown⟩⟩
  · have HB1 := Lib.hid hb1
    have hd : (E != 0) = true := by simpa using h0
    have hP1 : P = -1 := by rw [← HP.out]; unfold pickOf; rw [if_neg (by rw [HE.out]; exact h0)]
    subst hP1
    clear hb1 h0
    go_wp2_with fail
    go_ret3
    exact ⟨rfl, HB1.out⟩
  · subst h0
    have HB1 := Lib.hid hb1
    have hP1 : Hid (pick l bad.toNat (good.map Int.toNat) = P) := by show _ = _; rw [← HP.out]; unfold pickOf; rw [if_pos HE.out]
    have hA := asked_of (errOf_of_hunt HE.out).1
    obtain ⟨bd, hbd⟩ : ∃ bd, bad.toNat = bd := ⟨_, rfl⟩
    obtain ⟨gs, hgs⟩ : ∃ gs, good.map Int.toNat = gs := ⟨_, rfl⟩
    rw [hbd, hgs] at hA hown hP1
    obtain ⟨harr, hk, -, -⟩ := num.arr_of_own hown
    have hbe := hA.bad
    subst hbe
    have HPK := Lib.hid (pick_any (c := c3) hH HN.out harr hk (by rw [← HN.out]; exact hA.lt) (by rw [← HN.out]; exact hA.len))
    have hge := pick_ge l bd gs
    rw [hP1.out] at HPK hge
    clear hb1 hH hown harr hk hA hbd hgs
    go_wp2_with fail
    refine HPK.out.mono ?_
    rintro e w3 ⟨rfl, rfl⟩
    by_cases hpn : P < 0
    · have hd : decide (0 ≤ P) = false := by simp; omega
      go_wp2_with fail
      go_ret3
      exact ⟨by simp [hpn], HB1.out⟩
    · have hd : decide (0 ≤ P) = true := by simp; omega
      have hp2 : ¬ P < 0 := hpn
      go_wp2_with fail
      go_ret3
      exact ⟨by simp [hpn], HB1.out⟩

def truthRel (w1 : World) (n : Nat) (l : List Api.DDep) (tr : Nat → Bool) (st : Nat × List Nat) (b g m p : Value) (w' : World) : Prop :=
  ∃ k : Nat, goes l tr st k ∧ b = .int .i64 ((seq l tr st k).1 : Nat) ∧ Own (fun _ => False) w' w1.heap.size 3 g ((seq l tr st k).2.map Int.ofNat) ∧ m = .int .i64 (k : Nat) ∧ p = .int .i64 (pick l (seq l tr st k).1 (seq l tr st k).2) ∧ Below w1.heap.size w1 w'

/-- The hunt, where the question is good and there is somebody to ask. -/
def HuntPost (l : List Api.DDep) (tr : Nat → Bool) (st : Nat × List Nat) (w : World) (e : Ending) (w' : World) : Prop :=
  (∃ k : Nat, Stops l tr st k ∧ k ≤ 200 ∧ e = .returned (.tuple #[.int .i64 ((seq l tr st k).1 : Nat), .int .i64 (k : Nat), .int .i64 0])) ∧ Below w.heap.size w w'

set_option maxRecDepth 100000 in
set_option maxHeartbeats 1000000 in
theorem hunt_ok {S S2 : Nat → Prop} {w : World} {a a2 : Option Addr} {c c2 n n2 : Nat} {l : List Api.DDep} {bad : Int} {good : List Int} {F : FuncId} {caps : Array Value} {tr : Nat → Bool} (hn : l.length = n) (hn2 : good.length = n2) (h : Arr S w a l) (h2 : Arr S2 w a2 good) (hnil2 : a2 = none → c2 = 0) (hS : ∀ b, S b → b < w.heap.size) (hS2 : ∀ b, S2 b → b < w.heap.size) (hb : I64 bad) (hE : huntErr l bad good = 0)
    (hg5 : n2 ≤ 1000) (hF : ∀ (y : Int) (w : World), (callFunc F (#[.int .i64 y] ++ caps)).run Try.prog w = .ok (.enter F (#[.int .i64 y] ++ caps)) w)
    (hp : ∀ (k : Nat) (wx : World), k < n → Below w.heap.size w wx → Calls Try.prog F (#[.int .i64 (k : Nat)] ++ caps) wx fun e w' => e = .returned (.bool (tr k)) ∧ Below wx.heap.size wx w') :
    Calls Try.prog 35 #[.slice a n c, .int .i64 bad, .slice a2 n2 c2, .func (.func F) #[] caps] w (HuntPost l tr (bad.toNat, good.map Int.toNat) w) := by
  have HA := Lib.hid (asked_any (c := c) (c2 := c2) hn hn2 h h2 hS hS2 hb hE)
  have HN := Lib.hid hn; have HN2 := Lib.hid hn2; have HP := Lib.hid hp
  obtain ⟨he0, hsus⟩ := errOf_of_hunt hE
  have hA := asked_of he0
  obtain ⟨bd, hbd⟩ : ∃ bd, bad.toNat = bd := ⟨_, rfl⟩
  obtain ⟨gs, hgs⟩ : ∃ gs, good.map Int.toNat = gs := ⟨_, rfl⟩
  rw [hbd, hgs] at hA hsus HA ⊢
  obtain ⟨hl, hv, rfl, rfl, hlt, hall⟩ := hA
  have HFN : Hid (Fine l (bd, gs)) := ⟨hlt, hall, hsus⟩
  have HV := Lib.hid hv
  rw [hn] at hl hlt
  rw [List.length_map] at HN2
  have HH2 := Lib.hid h2
  clear hbd hgs he0 hE hn hn2 h hv hb hsus hall hp h2
  go_enter Try.func35, Try.ntmps35
  go_wp2_with fail
  refine HA.out.mono ?_
  rintro e w1 ⟨hb1, ⟨h0, -⟩ | ⟨-, hp, a3, k3, c3, rfl, hH, hown⟩⟩
  · exact absurd rfl h0
  have HB1 := Lib.hid hb1; have HHU := Lib.hid hH
  have HCL := Lib.hid (cloneI_any (n := n2) (c := c2) (w := w1) (xs := gs.map Int.ofNat) (by rw [List.length_map]; exact HN2.out) (HH2.out.keep (fun b hb => hb1.block b (hS2 b hb))) hnil2 (fun b hb => Nat.lt_of_lt_of_le (hS2 b hb) hb1.size) (by omega))
  obtain ⟨harr, hk3, -, -⟩ := num.arr_of_own hown
  have HAR := Lib.hid harr; have HK3 := Lib.hid hk3
  clear hb1 hH hown harr hk3 HA HH2
  have hfn : ∀ w, (binOp .eql 64 (.func (.func F) #[] caps) .nilFunc).run Try.prog w = .ok (.bool false) w := fun w => run_eql_func_nil w Try.underlying64 _ _ _
  go_wp2_with fail
  refine HCL.out.mono ?_
  rintro e w2 ⟨v2, rfl, hown2, hb2⟩
  have HHU2 := Lib.hid (HHU.out.below hb2); have HB2 := Lib.hid (HB1.out.trans (hb2.mono HB1.out.size))
  have HAR2 : Hid (Arr (fun b => False ∨ w.heap.size ≤ b ∧ b < w1.heap.size) w2 a3 (susL l bd gs)) := HAR.out.keep (fun b hb => hb2.block b (hb.elim False.elim (fun h => h.2)))
  have HPK := Lib.hid (pick_any (c := c3) HHU2.out HN.out HAR2.out HK3.out hlt hl)
  have HO2 := Lib.hid hown2; have HB12 := Lib.hid hb2
  have hs1w : w.heap.size ≤ w1.heap.size := HB1.out.size
  clear hown2 hb2 HCL HAR
  go_wp2_with fail
  refine HPK.out.mono ?_
  rintro e w3 ⟨rfl, rfl⟩
  clear HPK HAR2
  go_wp2_with fail
  go_loopw [1, 2, 12, 14, 15] (fun b g _ m p w' => truthRel w1 n l tr (bd, gs) b g m p w') (fun _ _ _ m _ _ => 300 - (intOf m).toNat)
  case atStart => exact ⟨0, (fun j hj => by omega), rfl, HO2.out, rfl, rfl, HB12.out⟩
  case round =>
    obtain ⟨k, hgo, rfl, hown, rfl, rfl, hbw⟩ := hrel
    obtain ⟨hfi, -⟩ := hgo.fine HV.out HFN.out
    have hk200 := hgo.bound HV.out HFN.out
    rw [HN.out] at hk200
    obtain ⟨⟨b, g⟩, hst⟩ : ∃ s, seq l tr (bd, gs) k = s := ⟨_, rfl⟩
    have HGO := Lib.hid hgo; have HST := Lib.hid hst
    rw [hst] at hown hfi ⊢
    dsimp only at hown ⊢
    have hbl : b < n := by have := hfi.bad; rw [HN.out] at this; exact this
    have hgl : ∀ x ∈ g, x < n := by have := hfi.good; rw [HN.out] at this; exact this
    have hgn := pick_ge l b g
    have hps := pick_spec (l := l) (b := b) (gs := g)
    obtain ⟨p, hpp⟩ : ∃ p, pick l b g = p := ⟨_, rfl⟩
    rw [hpp] at hgn hps ⊢
    have HPP := Lib.hid hpp; have HPS := Lib.hid hps; have HFI := Lib.hid hfi; have HGL := Lib.hid hgl
    have HOW := Lib.hid hown; have HBW := Lib.hid hbw
    have HHW := Lib.hid (HHU.out.below hbw)
    clear hgo hst hfi hgl hps hpp hown hbw
    by_cases hneg : p < 0
    · have HSTOP : Hid (Stops l tr (bd, gs) k) := ⟨HGO.out, by rw [HST.out]; show pick l b g < 0; rw [HPP.out]; exact hneg⟩
      have hbf : Hid ((seq l tr (bd, gs) k).1 = b) := by show _ = _; rw [HST.out]
      have HBF := Lib.hid (HB1.out.trans (HBW.out.mono hs1w))
      have hd : decide (0 ≤ p) = false := by simp; omega
      obtain ⟨ag, cg, rfl, -, -, -⟩ := num.own_len HOW.out rfl
      go_wp2_with fail
      go_ret3
      exact ⟨⟨k, HSTOP.out, by omega, by rw [hbf.out]; rfl⟩, HBF.out⟩
    · obtain ⟨q, rfl, hql, hqs, hqb⟩ := HPS.out (by omega)
      have hd : decide ((0 : Int) ≤ (q : Int)) = true := by simp
      rw [HN.out] at hql
      have HNX : Hid (seq l tr (bd, gs) (k + 1) = if tr q then (q, g) else (b, g ++ [q])) := by
        show nxt l tr (seq l tr (bd, gs) k) = _
        rw [HST.out, nxt]
        dsimp only
        rw [HPP.out, Int.toNat_natCast]
      have HG1 := Lib.hid (HGO.out.succ (by rw [HST.out]; show 0 ≤ pick l b g; rw [HPP.out]; omega))
      have HBQ := Lib.hid (HP.out q wr hql (HB1.out.trans (HBW.out.mono hs1w)))
      have hk201 := HG1.out.bound HV.out HFN.out
      rw [HN.out] at hk201
      go_wp2_with fail
      refine HBQ.out.mono ?_
      rintro e w5 ⟨rfl, hb5⟩
      have hbw5 : w1.heap.size ≤ wr.heap.size := HBW.out.size
      have HB5 := Lib.hid (HBW.out.trans (hb5.mono hbw5))
      have HO5 := Lib.hid (HOW.out.below hb5 (fun _ h => h.elim))
      have HH5 := Lib.hid (HHW.out.below hb5)
      obtain ⟨ng, hng⟩ : ∃ ng, g.length = ng := ⟨_, rfl⟩
      obtain ⟨ag, cg, rfl, -, -, hag⟩ := num.own_len (n := ng) HO5.out (by rw [List.length_map]; exact hng)
      have HNG := Lib.hid hng; have HAG := Lib.hid hag
      clear hb5 HBQ HOW hng hag
      cases htr : tr q with
      | true =>
        have HNX2 : Hid (seq l tr (bd, gs) (k + 1) = (q, g)) := by show _ = _; rw [HNX.out, if_pos htr]
        have HSU := Lib.hid (suspects_any (c2 := cg) (bd := q) HH5.out HN.out HAG.out HNG.out (fun b hb => hb.2) hql HGL.out hl)
        clear htr
        go_wp2_with fail
        refine HSU.out.mono ?_
        rintro e w6 ⟨a6, k6, c6, rfl, ho6, hb6⟩
        have HB6 := Lib.hid (HB5.out.trans (hb6.mono HB5.out.size))
        have HO6 := Lib.hid (HO5.out.below hb6 (fun _ h => h.elim))
        obtain ⟨har6, hk6, -, -⟩ := num.arr_of_own ho6
        have HPK := Lib.hid (pick_any (c := c6) (HH5.out.below hb6) HN.out har6 hk6 hql hl)
        clear ho6 hb6 har6 hk6 HSU
        go_wp2_with fail
        refine HPK.out.mono ?_
        rintro e w7 ⟨rfl, rfl⟩
        clear HPK
        go_wp2_with fail
        go_roundw
        case rel => exact ⟨k + 1, HG1.out, by rw [HNX2.out], by rw [HNX2.out]; exact HO6.out, by go_num, by rw [HNX2.out], HB6.out⟩
        case measure => simp [intOf]; omega
      | false =>
        have HNX2 : Hid (seq l tr (bd, gs) (k + 1) = (b, g ++ [q])) := by show _ = _; rw [HNX.out, if_neg (by rw [htr]; simp)]
        have hng2 : ng ≤ n2 + k := by
          have := seq_len l tr (bd, gs) k
          rw [HST.out] at this
          dsimp only at this
          rw [HNG.out, HN2.out] at this
          exact this
        have HFM : Hid (∀ (w' : World) (v' : Value), Own (fun _ => False) w' w1.heap.size 3 v' (g.map Int.ofNat ++ [(q : Int)]) → ∃ a' c', v' = .slice a' (ng + 1) c' ∧ Arr (fun b => w1.heap.size ≤ b ∧ b < w'.heap.size) w' a' ((g ++ [q]).map Int.ofNat)) := fun w' v' ho => by
          obtain ⟨a', c', hv, -, -, ha⟩ := num.own_len (n := ng + 1) ho (by rw [List.length_append, List.length_map, HNG.out]; rfl)
          exact ⟨a', c', hv, by rw [List.map_append]; exact ha⟩
        have HGL2 : Hid (∀ x ∈ g ++ [q], x < n) := fun x hx => by
          rcases List.mem_append.1 hx with hx | hx
          · exact HGL.out x hx
          · rw [List.mem_singleton.1 hx]; exact hql
        have HNG2 : Hid ((g ++ [q]).length = ng + 1) := by show _ = _; rw [List.length_append, HNG.out]; rfl
        have HGM : Hid ((g.map Int.ofNat).length + 1 ≤ 1000000000) := by show _ ≤ _; rw [List.length_map, HNG.out]; omega
        have hbw55 : w1.heap.size ≤ w5.heap.size := HB5.out.size
        have HI : Hid (I64 (q : Int)) := by show I64 _; unfold I64; omega
        clear htr
        go_wp2_with ((at_builtin; with_reducible refine Try.wp_appd30 rfl rfl rfl rfl rfl (by first | rfl | simp) (HO5.out) (cells_int HI.out) (fun _ h => h.elim) (by exact HGM.out) (by exact hbw55) fun v' w' hown' hg' hst' => ?_); obtain ⟨a8, c8, rfl, har8⟩ := HFM.out _ _ hown'; have HO8 := Lib.hid hown'; have HG8 := Lib.hid hg'; have HA8 := Lib.hid har8; clear hown' hg' hst' har8)
        have hb58 : Below w1.heap.size w5 w' := (Below.refl _ _).grown HG8.out hbw55 (fun j hj => (HO5.out.lt j hj).1)
        have HB8 := Lib.hid (HB5.out.trans hb58)
        have HH8 := Lib.hid (HHU.out.below HB8.out)
        have HSU := Lib.hid (suspects_any (c2 := c8) (bd := b) HH8.out HN.out HA8.out HNG2.out (fun b hb => hb.2) hbl HGL2.out hl)
        clear hb58
        refine HSU.out.mono ?_
        rintro e w6 ⟨a6, k6, c6, rfl, ho6, hb6⟩
        have HB6 := Lib.hid (HB8.out.trans (hb6.mono HB8.out.size))
        have HO6 : Hid (Own (fun _ => False) w6 w1.heap.size 3 (.slice a8 (ng + 1) c8) ((g ++ [q]).map Int.ofNat)) := by
          show Own _ _ _ _ _ _
          rw [List.map_append]
          exact HO8.out.below hb6 (fun _ h => h.elim)
        obtain ⟨har6, hk6, -, -⟩ := num.arr_of_own ho6
        have HPK := Lib.hid (pick_any (c := c6) (HH8.out.below hb6) HN.out har6 hk6 hbl hl)
        clear ho6 hb6 har6 hk6 HSU
        go_wp2_with fail
        refine HPK.out.mono ?_
        rintro e w7 ⟨rfl, rfl⟩
        clear HPK
        go_wp2_with fail
        go_roundw
        case rel => exact ⟨k + 1, HG1.out, by rw [HNX2.out], by rw [HNX2.out]; exact HO6.out, by go_num, by rw [HNX2.out], HB6.out⟩
        case measure => simp [intOf]; omega

set_option maxRecDepth 100000 in
theorem hunt_bad {S S2 : Nat → Prop} {w : World} {a a2 : Option Addr} {c c2 n n2 : Nat} {E : Int} {l : List Api.DDep} {bad : Int} {good : List Int} {v : Value} (hn : l.length = n) (hn2 : good.length = n2) (h : Arr S w a l) (h2 : Arr S2 w a2 good) (hS : ∀ b, S b → b < w.heap.size) (hS2 : ∀ b, S2 b → b < w.heap.size) (hb : I64 bad) (hE : huntErr l bad good = E) (h0 : E ≠ 0) :
    Calls Try.prog 35 #[.slice a n c, .int .i64 bad, .slice a2 n2 c2, v] w fun e w' => e = .returned (.tuple #[.int .i64 0, .int .i64 0, .int .i64 E]) ∧ Below w.heap.size w w' := by
  have HA := Lib.hid (asked_any (c := c) (c2 := c2) hn hn2 h h2 hS hS2 hb hE)
  have hd1 : (E == 0) = false := by simpa using h0
  have hd2 : (E != 0) = true := by simpa using h0
  clear h h2 hn hn2 hE hb
  go_enter Try.func35, Try.ntmps35
  go_wp2_with fail
  refine HA.out.mono ?_
  rintro e w1 ⟨hb1, ⟨-, rfl⟩ | ⟨h00, -⟩⟩
  · have HB1 := Lib.hid hb1
    clear hb1 HA
    go_wp2_with fail
    go_ret3
    exact ⟨rfl, HB1.out⟩
  · exact absurd h00 h0
set_option maxRecDepth 100000 in
theorem hunt_nil {S S2 : Nat → Prop} {w : World} {a a2 : Option Addr} {c c2 n n2 : Nat} {l : List Api.DDep} {bad : Int} {good : List Int} (hn : l.length = n) (hn2 : good.length = n2) (h : Arr S w a l) (h2 : Arr S2 w a2 good) (hS : ∀ b, S b → b < w.heap.size) (hS2 : ∀ b, S2 b → b < w.heap.size) (hb : I64 bad) (hE : huntErr l bad good = 0) :
    Calls Try.prog 35 #[.slice a n c, .int .i64 bad, .slice a2 n2 c2, .nilFunc] w fun e w' => e = .returned (.tuple #[.int .i64 0, .int .i64 0, .int .i64 8]) ∧ Below w.heap.size w w' := by
  have HA := Lib.hid (asked_any (c := c) (c2 := c2) hn hn2 h h2 hS hS2 hb hE)
  have hfn : ∀ w, (binOp .eql 64 .nilFunc .nilFunc).run Try.prog w = .ok (.bool true) w := fun w => run_eql_nil_nil w Try.underlying64
  clear h h2 hn hn2 hE hb
  go_enter Try.func35, Try.ntmps35
  go_wp2_with fail
  refine HA.out.mono ?_
  rintro e w1 ⟨hb1, ⟨h0, -⟩ | ⟨-, hp, a3, k3, c3, rfl, -, -⟩⟩
  · exact absurd rfl h0
  · have HB1 := Lib.hid hb1
    clear hb1 HA
    go_wp2_with fail
    go_ret3
    exact ⟨rfl, HB1.out⟩
end Go.Proofs.Ytfdpannanpipdaa.hunt
