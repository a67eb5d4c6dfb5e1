/- ClocksEdges: the reference's IsEdge, walked. -/
import Derived.Test.YtffebdngmbbcoaaClkE
import Derived.Deep.DeepCutAuto
import Derived.Deep.RegionHeld3
set_option linter.unusedVariables false
set_option linter.unusedSimpArgs false
namespace Go.Proofs.Ytffebdngmbbcoaa.clk
open Go.Bk Go.RowKit Go.Maps Go.Proofs.Ytffebdngmbbcoaa.lock

theorem clr_start (l : List Api.Event) (i : Nat) (p : Api.Event → Bool) : ∀ k, k ≤ i + 1 → clr l i p k = true
  | 0, _ => rfl
  | k + 1, h => by
    rw [clr, clr_start l i p k (by omega), decide_eq_false (by omega)]
    rfl
theorem clr_step {l : List Api.Event} {i k : Nat} {e : Api.Event} (hik : i < k) (he : l[k]? = some e) (p : Api.Event → Bool) : clr l i p (k + 1) = (clr l i p k && !p e) := by
  rw [clr, he, decide_eq_true hik]
  rfl
theorem belowN {w w' : World} (h : Below w.heap.size w w') (o : Obj) : Below w.heap.size w (w'.alloc o) := h.alloc h.size o
theorem belowS {w w' : World} (h : Below w.heap.size w w') {g k : Nat} (hg : w.heap.size ≤ g) (v : Value) : Below w.heap.size w (w'.setCell ⟨g, k, none⟩ v) := h.setCell (p := ⟨g, k, none⟩) hg v
theorem quietD {w w' : World} (h : Quiet w w') (n : Nat) : Quiet w (w'.drewN n) := h.trans ⟨n, rfl⟩
def flS (a b : Api.Event) : Bool := decide (a.Kind = 11 ∧ a.A = b.Thread)
def flO (a b : Api.Event) : Bool := decide (a.Kind = 17 ∧ b.Kind = 12 ∧ b.A = a.Thread)
def flF (a b : Api.Event) : Bool := decide (a.Kind = 14 ∧ b.Kind = 13 ∧ a.A = b.A)
def F9 (l : List Api.Event) (i : Nat) (a b : Api.Event) (k : Nat) : Bool := decide (a.Thread = b.Thread) && clr l i (fun e => decide (e.Thread = b.Thread)) k
def F10 (l : List Api.Event) (i : Nat) (a b : Api.Event) (k : Nat) : Bool := flS a b && clr l i (fun e => decide (e.Thread = b.Thread)) k
def F11 (l : List Api.Event) (i : Nat) (a b : Api.Event) (k : Nat) : Bool := flO a b && clr l i (fun e => decide (e.Kind = 17 ∧ e.Thread = a.Thread)) k
def F12 (l : List Api.Event) (i : Nat) (a b : Api.Event) (k : Nat) : Bool := flF a b && clr l i (fun e => decide (e.Kind = 13 ∧ e.A = a.A)) k
theorem boxes2 (w : World) (x y : Api.Event) : Blk ((w.alloc (.cells (evC x).toArray 70)).alloc (.cells (evC y).toArray 70)).drew w.heap.size 70 (evC x) ∧ Blk ((w.alloc (.cells (evC x).toArray 70)).alloc (.cells (evC y).toArray 70)).drew (w.heap.size + 1) 70 (evC y) ∧
    Below w.heap.size w ((w.alloc (.cells (evC x).toArray 70)).alloc (.cells (evC y).toArray 70)).drew := by
  have h1 := blk_new w (evC x) 70
  have h2 := blk_new (w.alloc (.cells (evC x).toArray 70)) (evC y) 70
  have e1 : (w.alloc (.cells (evC x).toArray 70)).heap.size = w.heap.size + 1 := by simp
  rw [e1] at h2
  exact ⟨Blk.drew (h1.keep (Below.heap_alloc _ _ _ (by simp))), Blk.drew h2, ((Below.refl _ _).alloc (Nat.le_refl _) _ |>.alloc (by simp) _).drew⟩
def ieRel (w : World) (l : List Api.Event) (i j : Nat) (a b : Api.Event) (v9 v10 v11 v12 v13 : Value) (w' : World) : Prop :=
  ∃ k : Nat, i < k ∧ k ≤ j ∧ v13 = .int .i64 k ∧ v9 = .bool (F9 l i a b k) ∧ v10 = .bool (F10 l i a b k) ∧ v11 = .bool (F11 l i a b k) ∧ v12 = .bool (F12 l i a b k) ∧ Quiet w w'
set_option maxRecDepth 100000 in
set_option maxHeartbeats 8000000 in
theorem isEdge_any {S : Nat → Prop} {w : World} {ad : Option Addr} {c n i j : Nat} {l : List Api.Event} (hn : l.length = n) (h : Arr S w ad l) (hS : ∀ b, S b → b < w.heap.size) (hij : i < j) (hj : j < n) :
    Calls Try.prog 24 #[.slice ad n c, .int .i64 (i : Nat), .int .i64 (j : Nat)] w fun e w' => e = .returned (.bool (edgeB l i j)) ∧ Below w.heap.size w w' := by
  have hsm := h.small
  rw [hn] at hsm
  unfold maxLen at hsm
  have HN := Lib.hid hn
  obtain ⟨a, ha⟩ : ∃ a, l[i]? = some a := ⟨_, List.getElem?_eq_getElem (by omega)⟩
  obtain ⟨b, hb⟩ : ∃ b, l[j]? = some b := ⟨_, List.getElem?_eq_getElem (by omega)⟩
  have HE : Hid (edgeB l i j = (F9 l i a b j || F10 l i a b j || F11 l i a b j || F12 l i a b j)) := by
    show _ = _
    unfold edgeB
    rw [ha, hb, decide_eq_true hij, Bool.true_and]
    rfl
  have HA : Hid (∀ w', Below w.heap.size w w' → Arr S w' ad l) := fun w' hb => h.keep (fun b hb' => hb.block b (hS b hb'))
  have hin : i < n := by omega
  obtain ⟨b1, o1, rfl, -, p0, p1, p2, p3, p4, p5, p6, p7, p8, p9, p10, p11, -⟩ := api_Event_elem h ha
  obtain ⟨b2, o2, e2, hSb, q0, q1, q2, q3, q4, q5, q6, q7, q8, q9, q10, q11, -⟩ := api_Event_elem h hb
  injection e2 with e2
  injection e2 with e2 e3
  subst e2 e3
  have hbl := hS _ hSb
  have HC : Hid (∀ (w' : World) (q : Nat), Below w.heap.size w w' → w'.cell? ⟨b1, q, none⟩ = w.cell? ⟨b1, q, none⟩) := fun w' q hb => hb.cell (p := ⟨b1, q, none⟩) hbl
  have HS : Hid (∀ w', Below w.heap.size w w' → (w'.cell? ⟨b1, o1 + i * 12, none⟩ = some (.int .i64 a.Kind) ∧ w'.cell? ⟨b1, o1 + i * 12 + 1, none⟩ = some (.int .i64 a.Step) ∧ w'.cell? ⟨b1, o1 + i * 12 + 2, none⟩ = some (.int .i64 a.Thread) ∧ w'.cell? ⟨b1, o1 + i * 12 + 3, none⟩ = some (.int .i64 a.Fn) ∧ w'.cell? ⟨b1, o1 + i * 12 + 4, none⟩ = some (.int .i64 a.At) ∧ w'.cell? ⟨b1, o1 + i * 12 + 5, none⟩ = some (.int .i64 a.Line) ∧ w'.cell? ⟨b1, o1 + i * 12 + 6, none⟩ = some (.int .i64 a.A) ∧ w'.cell? ⟨b1, o1 + i * 12 + 7, none⟩ = some (.int .i64 a.B) ∧ w'.cell? ⟨b1, o1 + i * 12 + 8, none⟩ = some (.int .i64 a.Val.Kind) ∧ w'.cell? ⟨b1, o1 + i * 12 + 9, none⟩ = some (.int .i64 a.Val.N) ∧ w'.cell? ⟨b1, o1 + i * 12 + 10, none⟩ = some (.int .i64 a.Old.Kind) ∧ w'.cell? ⟨b1, o1 + i * 12 + 11, none⟩ = some (.int .i64 a.Old.N)) ∧ (w'.cell? ⟨b1, o1 + j * 12, none⟩ = some (.int .i64 b.Kind) ∧ w'.cell? ⟨b1, o1 + j * 12 + 1, none⟩ = some (.int .i64 b.Step) ∧ w'.cell? ⟨b1, o1 + j * 12 + 2, none⟩ = some (.int .i64 b.Thread) ∧ w'.cell? ⟨b1, o1 + j * 12 + 3, none⟩ = some (.int .i64 b.Fn) ∧ w'.cell? ⟨b1, o1 + j * 12 + 4, none⟩ = some (.int .i64 b.At) ∧ w'.cell? ⟨b1, o1 + j * 12 + 5, none⟩ = some (.int .i64 b.Line) ∧ w'.cell? ⟨b1, o1 + j * 12 + 6, none⟩ = some (.int .i64 b.A) ∧ w'.cell? ⟨b1, o1 + j * 12 + 7, none⟩ = some (.int .i64 b.B) ∧ w'.cell? ⟨b1, o1 + j * 12 + 8, none⟩ = some (.int .i64 b.Val.Kind) ∧ w'.cell? ⟨b1, o1 + j * 12 + 9, none⟩ = some (.int .i64 b.Val.N) ∧ w'.cell? ⟨b1, o1 + j * 12 + 10, none⟩ = some (.int .i64 b.Old.Kind) ∧ w'.cell? ⟨b1, o1 + j * 12 + 11, none⟩ = some (.int .i64 b.Old.N))) := fun w' hb' => ⟨⟨(HC.out w' _ hb').trans p0, (HC.out w' _ hb').trans p1, (HC.out w' _ hb').trans p2, (HC.out w' _ hb').trans p3, (HC.out w' _ hb').trans p4, (HC.out w' _ hb').trans p5, (HC.out w' _ hb').trans p6, (HC.out w' _ hb').trans p7, (HC.out w' _ hb').trans p8, (HC.out w' _ hb').trans p9, (HC.out w' _ hb').trans p10, (HC.out w' _ hb').trans p11⟩, ⟨(HC.out w' _ hb').trans q0, (HC.out w' _ hb').trans q1, (HC.out w' _ hb').trans q2, (HC.out w' _ hb').trans q3, (HC.out w' _ hb').trans q4, (HC.out w' _ hb').trans q5, (HC.out w' _ hb').trans q6, (HC.out w' _ hb').trans q7, (HC.out w' _ hb').trans q8, (HC.out w' _ hb').trans q9, (HC.out w' _ hb').trans q10, (HC.out w' _ hb').trans q11⟩⟩
  clear h hn ha hb hS hSb
  go_enter Try.func24, Try.ntmps24
  go_upto_region 3 with fail
  go_cut [7, 8] (fun s7 s8 wz => ∃ g7 g8 : Nat, s7 = .pointer (some ⟨g7, 0, none⟩) ∧ s8 = .pointer (some ⟨g8, 0, none⟩) ∧ Blk wz g7 70 (evC a) ∧ Blk wz g8 70 (evC b) ∧ Below w.heap.size w wz)
  case first =>
    go_region_held3 (fun w' => (w'.cell? ⟨b1, o1 + i * 12, none⟩ = some (.int .i64 a.Kind) ∧ w'.cell? ⟨b1, o1 + i * 12 + 1, none⟩ = some (.int .i64 a.Step) ∧ w'.cell? ⟨b1, o1 + i * 12 + 2, none⟩ = some (.int .i64 a.Thread) ∧ w'.cell? ⟨b1, o1 + i * 12 + 3, none⟩ = some (.int .i64 a.Fn) ∧ w'.cell? ⟨b1, o1 + i * 12 + 4, none⟩ = some (.int .i64 a.At) ∧ w'.cell? ⟨b1, o1 + i * 12 + 5, none⟩ = some (.int .i64 a.Line) ∧ w'.cell? ⟨b1, o1 + i * 12 + 6, none⟩ = some (.int .i64 a.A) ∧ w'.cell? ⟨b1, o1 + i * 12 + 7, none⟩ = some (.int .i64 a.B) ∧ w'.cell? ⟨b1, o1 + i * 12 + 8, none⟩ = some (.int .i64 a.Val.Kind) ∧ w'.cell? ⟨b1, o1 + i * 12 + 9, none⟩ = some (.int .i64 a.Val.N) ∧ w'.cell? ⟨b1, o1 + i * 12 + 10, none⟩ = some (.int .i64 a.Old.Kind) ∧ w'.cell? ⟨b1, o1 + i * 12 + 11, none⟩ = some (.int .i64 a.Old.N)) ∧ (w'.cell? ⟨b1, o1 + j * 12, none⟩ = some (.int .i64 b.Kind) ∧ w'.cell? ⟨b1, o1 + j * 12 + 1, none⟩ = some (.int .i64 b.Step) ∧ w'.cell? ⟨b1, o1 + j * 12 + 2, none⟩ = some (.int .i64 b.Thread) ∧ w'.cell? ⟨b1, o1 + j * 12 + 3, none⟩ = some (.int .i64 b.Fn) ∧ w'.cell? ⟨b1, o1 + j * 12 + 4, none⟩ = some (.int .i64 b.At) ∧ w'.cell? ⟨b1, o1 + j * 12 + 5, none⟩ = some (.int .i64 b.Line) ∧ w'.cell? ⟨b1, o1 + j * 12 + 6, none⟩ = some (.int .i64 b.A) ∧ w'.cell? ⟨b1, o1 + j * 12 + 7, none⟩ = some (.int .i64 b.B) ∧ w'.cell? ⟨b1, o1 + j * 12 + 8, none⟩ = some (.int .i64 b.Val.Kind) ∧ w'.cell? ⟨b1, o1 + j * 12 + 9, none⟩ = some (.int .i64 b.Val.N) ∧ w'.cell? ⟨b1, o1 + j * 12 + 10, none⟩ = some (.int .i64 b.Old.Kind) ∧ w'.cell? ⟨b1, o1 + j * 12 + 11, none⟩ = some (.int .i64 b.Old.N)))
      (first
        | exact ⟨⟨p0, p1, p2, p3, p4, p5, p6, p7, p8, p9, p10, p11⟩, ⟨q0, q1, q2, q3, q4, q5, q6, q7, q8, q9, q10, q11⟩⟩
        | exact HS.out _ (by repeat (first | exact Below.refl _ _ | refine belowN ?_ _ | refine belowS ?_ (by simp) _ | refine Below.drew ?_)))
      (fail)
    all_goals go_wp2_with fail
    all_goals go_meet
    · obtain ⟨k1, k2, k3⟩ := boxes2 w a b
      exact ⟨_, _, rfl, rfl, k1, k2, k3⟩
    · obtain ⟨k1, k2, k3⟩ := boxes2 w b a
      exact ⟨_, _, rfl, rfl, k2, k1, k3⟩
  case rest =>
    clear HS HC p0 p1 p2 p3 p4 p5 p6 p7 p8 p9 p10 p11 q0 q1 q2 q3 q4 q5 q6 q7 q8 q9 q10 q11
    obtain ⟨g7, g8, rfl, rfl, k7, k8, hb⟩ := hcut
    have HB := Lib.hid hb; have K7 := Lib.hid k7; have K8 := Lib.hid k8
    obtain ⟨w1, hw1⟩ : ∃ w1 : World, w1 = wc := ⟨_, rfl⟩
    rw [← hw1] at HB K7 K8 k7 k8 ⊢
    clear hb hw1
    have a0 := k7.cell (j := 0) rfl; have a2 := k7.cell (j := 2) rfl; have a6 := k7.cell (j := 6) rfl
    have c0 := k8.cell (j := 0) rfl; have c2 := k8.cell (j := 2) rfl; have c6 := k8.cell (j := 6) rfl
    clear k7 k8
    go_upto_region 5 with fail
    go_cut [10] (fun s wz => s = .bool (flS a b) ∧ w1 = wz)
    case first =>
      by_cases h1 : a.Kind = 11
      · have d1 : (a.Kind == 11) = true := by simpa using h1
        by_cases h2 : a.A = b.Thread
        · have d2 : (a.A == b.Thread) = true := by simpa using h2
          have HD : Hid (flS a b = true) := decide_eq_true ⟨h1, h2⟩
          clear h1 h2
          go_wp2_with fail
          go_meet
          exact ⟨by rw [HD.out], rfl⟩
        · have d2 : (a.A == b.Thread) = false := by simpa using h2
          have HD : Hid (flS a b = false) := decide_eq_false (fun h => h2 h.2)
          clear h1 h2
          go_wp2_with fail
          go_meet
          exact ⟨by rw [HD.out], rfl⟩
      · have d1 : (a.Kind == 11) = false := by simpa using h1
        have HD : Hid (flS a b = false) := decide_eq_false (fun h => h1 h.1)
        clear h1
        go_wp2_with fail
        go_meet
        exact ⟨by rw [HD.out], rfl⟩
    case rest =>
      obtain ⟨rfl, rfl⟩ := hcut
      go_upto_region 6 with fail
      go_cut [11] (fun s wz => s = .bool (flO a b) ∧ w1 = wz)
      case first =>
        have hcase : a.Kind ≠ 17 ∨ (a.Kind = 17 ∧ b.Kind ≠ 12) ∨ (a.Kind = 17 ∧ b.Kind = 12 ∧ b.A ≠ a.Thread) ∨ (a.Kind = 17 ∧ b.Kind = 12 ∧ b.A = a.Thread) := by
          by_cases h1 : a.Kind = 17 <;> by_cases h2 : b.Kind = 12 <;> by_cases h3 : b.A = a.Thread <;> simp [h1, h2, h3]
        rcases hcase with h1 | ⟨h1, h2⟩ | ⟨h1, h2, h3⟩ | ⟨h1, h2, h3⟩
        · have d1 : (a.Kind == 17) = false := by simpa using h1
          have HD : Hid (flO a b = false) := decide_eq_false (fun h => h1 h.1)
          clear h1
          go_wp2_with fail
          go_meet
          exact ⟨by rw [HD.out], rfl⟩
        · have d1 : (a.Kind == 17) = true := by simpa using h1
          have d2 : (b.Kind == 12) = false := by simpa using h2
          have HD : Hid (flO a b = false) := decide_eq_false (fun h => h2 h.2.1)
          clear h1 h2
          go_wp2_with fail
          go_meet
          exact ⟨by rw [HD.out], rfl⟩
        · have d1 : (a.Kind == 17) = true := by simpa using h1
          have d2 : (b.Kind == 12) = true := by simpa using h2
          have d3 : (b.A == a.Thread) = false := by simpa using h3
          have HD : Hid (flO a b = false) := decide_eq_false (fun h => h3 h.2.2)
          clear h1 h2 h3
          go_wp2_with fail
          go_meet
          exact ⟨by rw [HD.out], rfl⟩
        · have d1 : (a.Kind == 17) = true := by simpa using h1
          have d2 : (b.Kind == 12) = true := by simpa using h2
          have d3 : (b.A == a.Thread) = true := by simpa using h3
          have HD : Hid (flO a b = true) := decide_eq_true ⟨h1, h2, h3⟩
          clear h1 h2 h3
          go_wp2_with fail
          go_meet
          exact ⟨by rw [HD.out], rfl⟩
      case rest =>
        obtain ⟨rfl, rfl⟩ := hcut
        go_upto_region 7 with fail
        go_cut [12] (fun s wz => s = .bool (flF a b) ∧ w1 = wz)
        case first =>
          have hcase : a.Kind ≠ 14 ∨ (a.Kind = 14 ∧ b.Kind ≠ 13) ∨ (a.Kind = 14 ∧ b.Kind = 13 ∧ a.A ≠ b.A) ∨ (a.Kind = 14 ∧ b.Kind = 13 ∧ a.A = b.A) := by
            by_cases h1 : a.Kind = 14 <;> by_cases h2 : b.Kind = 13 <;> by_cases h3 : a.A = b.A <;> simp [h1, h2, h3]
          rcases hcase with h1 | ⟨h1, h2⟩ | ⟨h1, h2, h3⟩ | ⟨h1, h2, h3⟩
          · have d1 : (a.Kind == 14) = false := by simpa using h1
            have HD : Hid (flF a b = false) := decide_eq_false (fun h => h1 h.1)
            clear h1
            go_wp2_with fail
            go_meet
            exact ⟨by rw [HD.out], rfl⟩
          · have d1 : (a.Kind == 14) = true := by simpa using h1
            have d2 : (b.Kind == 13) = false := by simpa using h2
            have HD : Hid (flF a b = false) := decide_eq_false (fun h => h2 h.2.1)
            clear h1 h2
            go_wp2_with fail
            go_meet
            exact ⟨by rw [HD.out], rfl⟩
          · have d1 : (a.Kind == 14) = true := by simpa using h1
            have d2 : (b.Kind == 13) = true := by simpa using h2
            have d3 : (a.A == b.A) = false := by simpa using h3
            have HD : Hid (flF a b = false) := decide_eq_false (fun h => h3 h.2.2)
            clear h1 h2 h3
            go_wp2_with fail
            go_meet
            exact ⟨by rw [HD.out], rfl⟩
          · have d1 : (a.Kind == 14) = true := by simpa using h1
            have d2 : (b.Kind == 13) = true := by simpa using h2
            have d3 : (a.A == b.A) = true := by simpa using h3
            have HD : Hid (flF a b = true) := decide_eq_true ⟨h1, h2, h3⟩
            clear h1 h2 h3
            go_wp2_with fail
            go_meet
            exact ⟨by rw [HD.out], rfl⟩
        case rest =>
          obtain ⟨rfl, rfl⟩ := hcut
          have HI : Hid (F9 l i a b (i + 1) = (a.Thread == b.Thread) ∧ F10 l i a b (i + 1) = flS a b ∧ F11 l i a b (i + 1) = flO a b ∧ F12 l i a b (i + 1) = flF a b) := by
            refine ⟨?_, ?_, ?_, ?_⟩
            · unfold F9; rw [clr_start _ _ _ _ (Nat.le_refl _), Bool.and_true]; rfl
            · unfold F10; rw [clr_start _ _ _ _ (Nat.le_refl _), Bool.and_true]
            · unfold F11; rw [clr_start _ _ _ _ (Nat.le_refl _), Bool.and_true]
            · unfold F12; rw [clr_start _ _ _ _ (Nat.le_refl _), Bool.and_true]
          obtain ⟨G9, hG9⟩ : ∃ G, G = (a.Thread == b.Thread) := ⟨_, rfl⟩
          rw [← hG9] at HI
          clear a0 a2 a6 c0 c2 c6
          go_wp2_with fail
          go_loopw [9, 10, 11, 12, 13] (ieRel w1 l i j a b) (fun _ _ _ _ t _ => j - (intOf t).toNat)
          case atStart => exact ⟨i + 1, by omega, by omega, by go_num, by rw [HI.out.1, hG9], by rw [HI.out.2.1], by rw [HI.out.2.2.1], by rw [HI.out.2.2.2], Quiet.refl _⟩
          case round =>
            clear HI hG9
            obtain ⟨k, hik, hkj, rfl, rfl, rfl, rfl, rfl, hq⟩ := hrel
            have HQ := Lib.hid hq
            have hk7 := K7.out.keep (w' := wr) (hq.heap g7)
            have hk8 := K8.out.keep (w' := wr) (hq.heap g8)
            have a2 := hk7.cell (j := 2) rfl; have a6 := hk7.cell (j := 6) rfl; have c2 := hk8.cell (j := 2) rfl
            clear hk7 hk8 hq
            by_cases hlt : k < j
            · obtain ⟨e, he⟩ : ∃ e, l[k]? = some e := ⟨_, List.getElem?_eq_getElem (by have := HN.out; omega)⟩
              obtain ⟨b3, o3, e3, -, q0, q1, q2, q3, q4, q5, q6, q7, q8, q9, q10, q11, -⟩ := api_Event_elem ((HA.out _ HB.out).keep (w' := wr) (fun b _ => HQ.out.heap b)) he
              injection e3 with e3
              injection e3 with e3 e4
              subst e3 e4
              have hkn : k < n := by omega
              have HN9 : Hid (F9 l i a b (k + 1) = (F9 l i a b k && !decide (e.Thread = b.Thread))) := by show _ = _; unfold F9; rw [clr_step hik he, Bool.and_assoc]
              have HN10 : Hid (F10 l i a b (k + 1) = (F10 l i a b k && !decide (e.Thread = b.Thread))) := by show _ = _; unfold F10; rw [clr_step hik he, Bool.and_assoc]
              have HN11 : Hid (F11 l i a b (k + 1) = (F11 l i a b k && !decide (e.Kind = 17 ∧ e.Thread = a.Thread))) := by show _ = _; unfold F11; rw [clr_step hik he, Bool.and_assoc]
              have HN12 : Hid (F12 l i a b (k + 1) = (F12 l i a b k && !decide (e.Kind = 13 ∧ e.A = a.A))) := by show _ = _; unfold F12; rw [clr_step hik he, Bool.and_assoc]
              clear q1 q3 q4 q5 q7 q8 q9 q10 q11 he
              have hcT : ((e.Thread == b.Thread) = true ∧ decide (e.Thread = b.Thread) = true) ∨ ((e.Thread == b.Thread) = false ∧ decide (e.Thread = b.Thread) = false) := by by_cases h : e.Thread = b.Thread <;> simp [h]
              have hcK : ((e.Kind == 17) = true ∧ (e.Thread == a.Thread) = true ∧ (e.Kind == 13) = false ∧ decide (e.Kind = 17 ∧ e.Thread = a.Thread) = true ∧ decide (e.Kind = 13 ∧ e.A = a.A) = false) ∨ ((e.Kind == 17) = true ∧ (e.Thread == a.Thread) = false ∧ (e.Kind == 13) = false ∧ decide (e.Kind = 17 ∧ e.Thread = a.Thread) = false ∧ decide (e.Kind = 13 ∧ e.A = a.A) = false) ∨
                  ((e.Kind == 17) = false ∧ (e.Kind == 13) = true ∧ (e.A == a.A) = true ∧ decide (e.Kind = 17 ∧ e.Thread = a.Thread) = false ∧ decide (e.Kind = 13 ∧ e.A = a.A) = true) ∨ ((e.Kind == 17) = false ∧ (e.Kind == 13) = true ∧ (e.A == a.A) = false ∧ decide (e.Kind = 17 ∧ e.Thread = a.Thread) = false ∧ decide (e.Kind = 13 ∧ e.A = a.A) = false) ∨
                  ((e.Kind == 17) = false ∧ (e.Kind == 13) = false ∧ True ∧ decide (e.Kind = 17 ∧ e.Thread = a.Thread) = false ∧ decide (e.Kind = 13 ∧ e.A = a.A) = false) := by
                by_cases h1 : e.Kind = 17
                · by_cases h2 : e.Thread = a.Thread <;> simp [h1, h2]
                · by_cases h3 : e.Kind = 13
                  · by_cases h4 : e.A = a.A <;> simp [h3, h4]
                  · simp [h1, h3]
              rcases hcT with ⟨dT, hT⟩ | ⟨dT, hT⟩ <;> rcases hcK with ⟨d1, d2, d3, h17, h13⟩ | ⟨d1, d2, d3, h17, h13⟩ | ⟨d1, d2, d3, h17, h13⟩ | ⟨d1, d2, d3, h17, h13⟩ | ⟨d1, d2, d3, h17, h13⟩
              all_goals
                rw [hT] at HN9 HN10
                rw [h17] at HN11
                rw [h13] at HN12
                clear hT h17 h13
                go_wp2_with fail
                first | (refine wp_region_quiet_lit (by kernel_rfl) (by kernel_rfl) ?_; (repeat (go_big_quiet_step (fail))); refine wpQuiet_nil ?_; intro _ hw'; obtain ⟨nq, hw''⟩ := hw'; subst hw'')
                go_wp2_with fail
                (try first | (refine wp_region_quiet_lit (by kernel_rfl) (by kernel_rfl) ?_; (repeat (go_big_quiet_step (fail))); refine wpQuiet_nil ?_; intro _ hw'; obtain ⟨nq, hw''⟩ := hw'; subst hw''))
                go_wp2_with fail
                (try first | (refine wp_region_quiet_lit (by kernel_rfl) (by kernel_rfl) ?_; (repeat (go_big_quiet_step (fail))); refine wpQuiet_nil ?_; intro _ hw'; obtain ⟨nq, hw''⟩ := hw'; subst hw''))
                go_wp2_with fail
                go_roundw
                case rel => exact ⟨k + 1, by omega, by omega, by go_num, by rw [HN9.out]; simp, by rw [HN10.out]; simp, by rw [HN11.out]; simp, by rw [HN12.out]; simp, by repeat (first | exact HQ.out | refine quietD ?_ _)⟩
                case measure => simp [intOf]; omega
            · obtain rfl : k = j := by omega
              have HBF := Lib.hid (HB.out.trans ((HQ.out.below _).mono HB.out.size))
              obtain ⟨X9, h9⟩ : ∃ X, X = F9 l i a b k := ⟨_, rfl⟩
              obtain ⟨X10, h10⟩ : ∃ X, X = F10 l i a b k := ⟨_, rfl⟩
              obtain ⟨X11, h11⟩ : ∃ X, X = F11 l i a b k := ⟨_, rfl⟩
              obtain ⟨X12, h12⟩ : ∃ X, X = F12 l i a b k := ⟨_, rfl⟩
              rw [← h9, ← h10, ← h11, ← h12] at HE ⊢
              clear h9 h10 h11 h12 a2 a6 c2
              cases X9 with
              | true =>
                go_wp2_with fail
                go_ret
                exact ⟨by rw [HE.out]; rfl, HBF.out⟩
              | false =>
                cases X10 with
                | true =>
                  go_wp2_with fail
                  go_ret
                  exact ⟨by rw [HE.out]; rfl, HBF.out⟩
                | false =>
                  cases X11 with
                  | true =>
                    go_wp2_with fail
                    go_ret
                    exact ⟨by rw [HE.out]; rfl, HBF.out⟩
                  | false =>
                    cases X12 with
                    | true =>
                      go_wp2_with fail
                      go_ret
                      exact ⟨by rw [HE.out]; rfl, HBF.out⟩
                    | false =>
                      go_wp2_with fail
                      go_ret
                      exact ⟨by rw [HE.out]; rfl, HBF.out⟩
end Go.Proofs.Ytffebdngmbbcoaa.clk
