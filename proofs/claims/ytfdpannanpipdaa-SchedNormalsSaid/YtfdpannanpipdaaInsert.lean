/- slices.Insert at ints: one number is put into a row of one's own; by the shelf's contracts, laid over this seat (XInsertLay). -/
import Derived.Test.YtfdpannanpipdaaCells
import Derived.Test.YtfdpannanpipdaaApart
import Derived.Test.YtfdpannanpipdaaInsertLay
set_option linter.unusedVariables false
set_option linter.unusedSimpArgs false
namespace Go.Proofs.Ytfdpannanpipdaa
open Go.Bk Go.RowKit

/-- One number put in: the row may have moved. -/
def InsPost (w : World) (B : Nat) (v : Value) (zs : List Int) (e : Ending) (w' : World) : Prop :=
  ∃ v', e = .returned v' ∧ Own (fun _ => False) w' B 3 v' zs ∧ w.grownBy w' v.ownBlock ∧ Stay w v v'

theorem splice_len {α : Type} {L : List α} {o : Nat} {cs : List α} (h : o + cs.length ≤ L.length) : (splice L o cs).length = L.length := by
  unfold splice; simp; omega
theorem ins_room {L cur : List Value} {i n : Nat} {x : Value} (hL : L.length = n) (hc : cur.take n = L) (hi : i < n) (hcl : n + 1 ≤ cur.length) : (splice (splice cur (i + 1) (L.drop i)) i [x]).take (n + 1) = L.take i ++ x :: L.drop i := by
  have h1 : (splice cur (i + 1) (L.drop i)).take i = L.take i := by
    unfold splice
    rw [List.take_append_of_le_length (by simp; omega), List.take_take, Nat.min_eq_left (by omega), ← hc, List.take_take, Nat.min_eq_left (by omega)]
  have h2 : (splice cur (i + 1) (L.drop i)).drop (i + 1) = L.drop i ++ cur.drop (i + 1 + (L.drop i).length) := by
    unfold splice
    rw [List.drop_append_of_le_length (by simp; omega), List.drop_take, Nat.sub_self, List.take_zero, List.nil_append]
  have h3 : splice (splice cur (i + 1) (L.drop i)) i [x] = (L.take i ++ x :: L.drop i) ++ cur.drop (i + 1 + (L.drop i).length) := by
    rw [splice, h1, List.length_singleton, h2]
    simp
  rw [h3, List.take_append_of_le_length (by simp; omega), List.take_of_length_le (by simp; omega)]
theorem ins_grow {L : List Value} {A : List Value} {i n : Nat} {x : Value} (hL : L.length = n) (hi : i < n) (hA : A.take i = L.take i) (hAl : n + 1 ≤ A.length) : (splice (splice A i [x]) (i + 1) (L.drop i)).take (n + 1) = L.take i ++ x :: L.drop i := by
  have h1 : splice A i [x] = L.take i ++ x :: A.drop (i + 1) := by unfold splice; rw [hA]; simp
  have h2 : (splice A i [x]).take (i + 1) = L.take i ++ [x] := by
    rw [h1, List.take_append, List.take_of_length_le (by simp; omega), List.length_take, hL, Nat.min_eq_left (by omega), show i + 1 - i = 1 by omega]; rfl
  have h3 : splice (splice A i [x]) (i + 1) (L.drop i) = (L.take i ++ x :: L.drop i) ++ (splice A i [x]).drop (i + 1 + (L.drop i).length) := by
    rw [splice, h2]
    simp
  rw [h3, List.take_append_of_le_length (by simp; omega), List.take_of_length_le (by simp; omega)]

theorem zeros_list (n : Nat) : (Builtin.zeroCells (Value.int .i64 0).cells n).toList.length = n := by
  rw [Array.length_toList, size_zeroCells]; exact Nat.mul_one n
theorem new_own {w : World} {B K n : Nat} {zs : List Int} {L : List Value} {x : Int} (hB : B ≤ w.heap.size) (h1 : n + 1 ≤ K) (h2 : K ≤ maxLen) (hz : zs.length = n + 1) (hV : intsV zs = L ++ [Value.int .i64 x]) (hL : L.length = n) (hI : ∀ z ∈ zs, I64 z) :
    Own (fun _ => False) (w.drew.alloc (.cells ((L ++ [Value.int .i64 x]).toArray ++ Builtin.zeroCells (Value.int .i64 0).cells (K - (n + 1))) 3)) B 3 (.slice (some ⟨w.heap.size, 0, none⟩) (n + 1) K) zs := by
  have hb := blk_new w.drew ((L ++ [Value.int .i64 x]) ++ (Builtin.zeroCells (Value.int .i64 0).cells (K - (n + 1))).toList) 3
  rw [← List.append_toArray, Array.toArray_toList] at hb
  refine own_of_cells (g := w.heap.size) hB hb (by rw [List.length_append, zeros_list]; simp; omega) h1 h2 hz ?_ hI
  rw [hV, List.take_append_of_le_length (by simp; omega), List.take_of_length_le (by simp; omega)]
theorem grow_own {w : World} {B K n i : Nat} {zs : List Int} {L : List Value} {x : Int} (hB : B ≤ w.heap.size) (hL : L.length = n) (hi : i < n) (h1 : n + 1 ≤ K) (h2 : K ≤ maxLen) (hz : zs.length = n + 1) (hV : intsV zs = L.take i ++ Value.int .i64 x :: L.drop i) (hI : ∀ z ∈ zs, I64 z) :
    Own (fun _ => False) ((((w.alloc (.cells ((L.take i).toArray ++ Builtin.zeroCells (Value.int .i64 0).cells (n + 1 - i) ++ Builtin.zeroCells (Value.int .i64 0).cells (K - (n + 1))) 3)).drew.setCells w.heap.size i [Value.int .i64 x]).drew).setCells w.heap.size (i + 1) (L.drop i)) B 3 (.slice (some ⟨w.heap.size, 0, none⟩) (n + 1) K) zs := by
  have hb := blk_new w (L.take i ++ (Builtin.zeroCells (Value.int .i64 0).cells (n + 1 - i)).toList ++ (Builtin.zeroCells (Value.int .i64 0).cells (K - (n + 1))).toList) 3
  rw [← List.append_toArray, ← List.append_toArray, Array.toArray_toList, Array.toArray_toList] at hb
  obtain ⟨A, hA⟩ : ∃ A, L.take i ++ (Builtin.zeroCells (Value.int .i64 0).cells (n + 1 - i)).toList ++ (Builtin.zeroCells (Value.int .i64 0).cells (K - (n + 1))).toList = A := ⟨_, rfl⟩
  have hAl : A.length = K := by rw [← hA, List.length_append, List.length_append, zeros_list, zeros_list, List.length_take]; omega
  have hAt : A.take i = L.take i := by rw [← hA, List.append_assoc, List.take_append_of_le_length (by simp; omega), List.take_of_length_le (by simp; omega)]
  have hb0 : Blk (w.alloc (.cells ((L.take i).toArray ++ Builtin.zeroCells (Value.int .i64 0).cells (n + 1 - i) ++ Builtin.zeroCells (Value.int .i64 0).cells (K - (n + 1))) 3)) w.heap.size 3 A := by
    unfold Blk
    rw [← hA]
    simpa [Blk] using hb
  have hb1 := Blk.setCells [.int .i64 x] i _ A hb0.drew (by rw [List.length_singleton]; omega)
  have hl1 : (splice A i [Value.int .i64 x]).length = K := by rw [splice_len (by rw [List.length_singleton]; omega), hAl]
  have hb2 := Blk.setCells (L.drop i) (i + 1) _ _ hb1.drew (by rw [hl1, List.length_drop]; omega)
  refine own_of_cells (g := w.heap.size) hB hb2 (by rw [splice_len (by rw [hl1, List.length_drop]; omega), hl1]) h1 h2 hz ?_ hI
  rw [ins_grow hL hi hAt (by omega), hV]

theorem insert_any {w : World} {B i vb vc : Nat} {v : Value} {xs : List Int} {x : Int} (hown : Own (fun _ => False) w B 3 v xs) (hi : i ≤ xs.length) (hbox : Blk w vb 3 [.int .i64 x]) (hvb : v.ownBlock ≠ some vb) (hx : I64 x) (hl : xs.length ≤ 1000000) (hB : B ≤ w.heap.size) :
    Calls Try.prog 102 #[v, .int .i64 (i : Nat), .slice (some ⟨vb, 0, none⟩) 1 vc] w (InsPost w B v (xs.take i ++ x :: xs.drop i)) := by
  have hI : ∀ z ∈ xs.take i ++ x :: xs.drop i, I64 z := by
    intro z hz
    rcases List.mem_append.1 hz with h | h
    · exact own_i64 hown z (List.mem_of_mem_take h)
    · rcases List.mem_cons.1 h with h | h
      · rw [h]; exact hx
      · exact own_i64 hown z (List.mem_of_mem_drop h)
  have hlen : (xs.take i ++ x :: xs.drop i).length = xs.length + 1 := by simp; omega
  have hV : intsV (xs.take i ++ x :: xs.drop i) = (intsV xs).take i ++ Value.int .i64 x :: (intsV xs).drop i := by
    rw [intsV_append, intsV_take]; simp [intsV, List.map_drop]
  have hvs : ∀ (j : Nat) (u : Value), [Value.int .i64 x][j]? = some u → w.cell? ⟨vb, 0 + j, none⟩ = some u := fun j u hu => by
    rw [Nat.zero_add]; exact hbox.cell hu
  have h1v : ∀ u ∈ [Value.int .i64 x], u.oneCell' = true := by intro u hu; simp at hu; subst hu; rfl
  rcases own_cells hown with ⟨rfl, rfl⟩ | ⟨g, c, cs, rfl, hg, hb, hcl, hnc, hcm, ht⟩
  · have hi0 : i = 0 := by simpa using hi
    subst hi0
    have h := Any2.slices_Insert_int_end_grow Try.insertLays none 0 0 vb 0 1 vc [] [.int .i64 x] w Nat.one_pos (Nat.le_refl _) (by omega) (by omega) rfl rfl (fun _ => rfl) (fun a h => by cases h) hvs h1v
    refine h.mono ?_
    rintro e w' ⟨rfl, rfl⟩
    have hge := grownCap_ge w (0 + 1) 0 3
    refine ⟨_, rfl, new_own (L := []) hB hge (grownCap_le_maxLen _ _ _ _ (by simp [maxLen])) hlen (by rw [hV]; rfl) rfl hI, grownBy_alloc (grownBy_drew (World.grownBy.refl _ _)) _, fun k hk => .inr ?_⟩
    have : w.heap.size = k := Option.some.inj hk
    omega
  · have hLl : (intsV xs).length = xs.length := intsV_len xs
    have hcs : ∀ (j : Nat) (u : Value), (intsV xs)[j]? = some u → w.cell? ⟨g, 0 + j, none⟩ = some u := fun j u hu => by
      rw [Nat.zero_add]
      refine hb.cell ?_
      rw [← ht, List.getElem?_take] at hu
      split at hu
      · exact hu
      · cases hu
    have hne : vb ≠ g := fun e => hvb (by rw [e]; rfl)
    have hsp : ∀ j, j < c → (w.cell? ⟨g, j, none⟩).isSome = true := fun j hj => by rw [hb.cell (List.getElem?_eq_getElem (by omega : j < cs.length))]; rfl
    have hm63 : c ≤ 9223372036854775807 := by unfold maxLen at hcm; exact hcm
    by_cases hin : i < xs.length
    · by_cases hroom : xs.length + 1 ≤ c
      · have h := Any2.slices_Insert_int_shift Try.insertLays g 0 xs.length c i vb 0 1 vc (intsV xs) [.int .i64 x] w hin Nat.one_pos hroom hm63 hne hLl rfl hcs (fun j hj => by rw [Nat.zero_add]; exact hsp j (by omega)) (fun j _ => hb.frozen _) hvs (intsV_one xs) h1v
          3 3 1 c (by simp [World.shape?, (show w.heap[vb]? = _ from hbox)]) (by simp [World.shape?, (show w.heap[g]? = _ from hb), hcl]) (by omega) (hbox.frozen _) (hbox.frozen _)
        refine h.mono ?_
        rintro e w' ⟨rfl, rfl⟩
        rw [Nat.zero_add, Nat.zero_add]
        refine ⟨_, rfl, ?_, grownBy_setCells _ _ _ (grownBy_setCells _ _ _ (grownBy_drew (World.grownBy.refl _ _))), fun k hk => .inl hk⟩
        have hb1 := Blk.setCells ((intsV xs).drop i) (i + 1) w.drew cs hb.drew (by rw [List.length_drop, hLl]; omega)
        have hl1 : (splice cs (i + 1) ((intsV xs).drop i)).length = c := by rw [splice_len (by rw [List.length_drop, hLl]; omega), hcl]
        have hb2 := Blk.setCells [.int .i64 x] i _ _ hb1 (by rw [hl1, List.length_singleton]; omega)
        refine own_of_cells hg hb2 (by rw [splice_len (by rw [hl1, List.length_singleton]; omega), hl1]) hroom hcm hlen ?_ hI
        rw [ins_room hLl ht hin (by omega), hV]
      · have h := Any2.slices_Insert_int_grow Try.insertLays g 0 xs.length c i vb 0 1 vc (intsV xs) [.int .i64 x] w hin Nat.one_pos hnc (by omega) (by omega) hLl rfl hcs hvs (intsV_one xs) h1v
        refine h.mono ?_
        rintro e w' ⟨rfl, rfl⟩
        have hge := grownCap_ge w (xs.length + 1) c 3
        refine ⟨_, rfl, ?_, ?_, fun k hk => .inr ?_⟩
        · exact grow_own hB hLl hin hge (grownCap_le_maxLen _ _ _ _ (by simp [maxLen]; omega)) hlen hV hI
        · exact grownBy_new (grownBy_drew (grownBy_new (grownBy_drew (grownBy_alloc (World.grownBy.refl _ _) _)) (Nat.le_refl _) _ _)) (Nat.le_refl _) _ _
        · have : w.heap.size = k := Option.some.inj hk
          omega
    · have hie : i = xs.length := by omega
      subst hie
      have hV2 : intsV (xs.take xs.length ++ x :: xs.drop xs.length) = intsV xs ++ [Value.int .i64 x] := by rw [List.take_length, List.drop_length, intsV_append]; rfl
      by_cases hroom : xs.length + 1 ≤ c
      · have h := Any2.slices_Insert_int_end_room Try.insertLays g 0 xs.length c vb 0 1 vc [.int .i64 x] w Nat.one_pos hroom hm63 rfl (fun j hj => by rw [Nat.zero_add]; exact hsp _ (by omega)) (fun j _ => hb.frozen _) hvs h1v
        refine h.mono ?_
        rintro e w' ⟨rfl, rfl⟩
        rw [Nat.zero_add]
        refine ⟨_, rfl, ?_, grownBy_setCells _ _ _ (World.grownBy.refl _ _), fun k hk => .inl hk⟩
        have hb1 := Blk.setCells [.int .i64 x] xs.length w cs hb (by rw [hcl]; exact hroom)
        refine own_of_cells hg hb1 (by rw [splice_len (by rw [hcl]; exact hroom), hcl]) hroom hcm hlen ?_ hI
        rw [hV2]
        unfold splice
        rw [ht, List.length_singleton, List.singleton_append, List.append_cons, List.take_append_of_le_length (by simp [intsV]), List.take_of_length_le (by simp [intsV])]
      · have h := Any2.slices_Insert_int_end_grow Try.insertLays (some ⟨g, 0, none⟩) xs.length c vb 0 1 vc (intsV xs) [.int .i64 x] w Nat.one_pos hnc (by omega) (by omega) hLl rfl (fun h => by cases h) (fun a ha j u hu => by cases ha; rw [Addr.add_lit]; exact hcs j u hu) hvs h1v
        refine h.mono ?_
        rintro e w' ⟨rfl, rfl⟩
        have hge := grownCap_ge w (xs.length + 1) c 3
        refine ⟨_, rfl, new_own hB hge (grownCap_le_maxLen _ _ _ _ (by simp [maxLen]; omega)) hlen hV2 hLl hI, grownBy_alloc (grownBy_drew (World.grownBy.refl _ _)) _, fun k hk => .inr ?_⟩
        have : w.heap.size = k := Option.some.inj hk
        omega
end Go.Proofs.Ytfdpannanpipdaa
