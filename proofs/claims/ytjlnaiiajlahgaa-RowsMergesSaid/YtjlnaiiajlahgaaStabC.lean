/- Plain: Go's symMerge: what its search, its rotation, its two halves leave. -/
import Derived.Test.YtjlnaiiajlahgaaStabPlain
set_option linter.unusedVariables false
set_option linter.unusedSimpArgs false
namespace Go.Bk.Stab
open Go.Sort
section
variable {α : Type} [Inhabited α] {key : α → Int}
/-- The places among which the search goes. -/
def Rng (a m b mid lo hi : Nat) : Prop := (m ≤ mid ∧ lo = a ∧ hi = m) ∨ (mid < m ∧ lo + b = mid + m ∧ hi = mid)
theorem Rng.facts {a m b mid lo hi : Nat} (h : Rng a m b mid lo hi) (ham : a < m) (hmb : m < b) (hmid : mid = (a + b) / 2) : a ≤ lo ∧ lo ≤ hi ∧ hi ≤ m ∧ hi ≤ mid ∧ a < mid ∧ mid < b ∧ mid + m ≤ hi + b ∧ mid + m ≤ lo + b := by
  rcases h with ⟨h1, rfl, rfl⟩ | ⟨h1, h2, rfl⟩ <;> omega
/-- The search's two sides. -/
structure Sch (key : α → Int) (d : Array α) (a m b mid lo hi s r : Nat) : Prop where
  qlo : lo ≤ s
  qle : s ≤ r
  qhi : r ≤ hi
  below : ∀ c, lo ≤ c → c < s → key d[c]! ≤ key d[mid + m - 1 - c]!
  above : ∀ c, r ≤ c → c < hi → key d[mid + m - 1 - c]! < key d[c]!
theorem Sch.start {d : Array α} {a m b mid lo hi : Nat} (h : lo ≤ hi) : Sch key d a m b mid lo hi lo hi := ⟨Nat.le_refl _, h, Nat.le_refl _, fun c h1 h2 => by omega, fun c h1 h2 => by omega⟩
theorem Sch.up {d : Array α} {a m b mid lo hi s r c : Nat} (h : Sch key d a m b mid lo hi s r) (hR : Rng a m b mid lo hi) (ham : a < m) (hmb : m < b) (hmid : mid = (a + b) / 2) (hl : SR key d a m) (hr : SR key d m b) (h1 : s ≤ c) (h2 : c < r) (hk : key d[c]! ≤ key d[mid + m - 1 - c]!) :
    Sch key d a m b mid lo hi (c + 1) r := by
  obtain ⟨f1, f2, f3, f4, f5, f6, f7, f8⟩ := hR.facts ham hmb hmid
  have h0 := h.qlo; have h3 := h.qhi
  refine ⟨by omega, by omega, h3, fun c' g1 g2 => ?_, h.above⟩
  have k1 := hl.le (i := c') (j := c) (by omega) (by omega) (by omega)
  have k2 := hr.le (i := mid + m - 1 - c) (j := mid + m - 1 - c') (by rcases hR with ⟨e1, e2, e3⟩ | ⟨e1, e2, e3⟩ <;> omega) (by omega) (by omega)
  omega
theorem Sch.down {d : Array α} {a m b mid lo hi s r c : Nat} (h : Sch key d a m b mid lo hi s r) (hR : Rng a m b mid lo hi) (ham : a < m) (hmb : m < b) (hmid : mid = (a + b) / 2) (hl : SR key d a m) (hr : SR key d m b) (h1 : s ≤ c) (h2 : c < r) (hk : key d[mid + m - 1 - c]! < key d[c]!) :
    Sch key d a m b mid lo hi s c := by
  obtain ⟨f1, f2, f3, f4, f5, f6, f7, f8⟩ := hR.facts ham hmb hmid
  have h0 := h.qlo; have h3 := h.qhi
  refine ⟨h0, h1, by omega, h.below, fun c' g1 g2 => ?_⟩
  have k1 := hl.le (i := c) (j := c') (by omega) (by omega) (by omega)
  have k2 := hr.le (i := mid + m - 1 - c') (j := mid + m - 1 - c) (by rcases hR with ⟨e1, e2, e3⟩ | ⟨e1, e2, e3⟩ <;> omega) (by omega) (by omega)
  omega
/-- Behind the search: the right part's beginning is below the left part's end. -/
theorem Sch.turn {d : Array α} {a m b mid lo hi s e : Nat} (h : Sch key d a m b mid lo hi s s) (hR : Rng a m b mid lo hi) (ham : a < m) (hmb : m < b) (hmid : mid = (a + b) / 2) (hl : SR key d a m) (hr : SR key d m b) (he : e + s = mid + m) :
    ∀ i j, s ≤ i → i < m → m ≤ j → j < e → key d[j]! < key d[i]! := fun i j h1 h2 h3 h4 => by
  obtain ⟨f1, f2, f3, f4, f5, f6, f7, f8⟩ := hR.facts ham hmb hmid
  have h0 := h.qlo; have h5 := h.qhi
  have hs : s < hi := by rcases hR with ⟨e1, e2, e3⟩ | ⟨e1, e2, e3⟩ <;> omega
  have k1 := h.above s (Nat.le_refl _) hs
  have k2 := hl.le (i := s) (j := i) (by omega) h1 h2
  have k3 := hr.le (i := j) (j := mid + m - 1 - s) h3 (by omega) (by omega)
  omega
theorem sym_runs {d d1 : Array α} {a m b mid lo hi s e : Nat} (h : Sch key d a m b mid lo hi s s) (hR : Rng a m b mid lo hi) (ham : a < m) (hmb : m < b) (hmid : mid = (a + b) / 2) (hb : b ≤ d.size) (hl : SR key d a m) (hr : SR key d m b) (he : e + s = mid + m)
    (hd : ∀ t, t < d.size → d1[t]! = d[rotI s m e t]!) : SR key d1 a s ∧ SR key d1 s mid ∧ SR key d1 mid e ∧ SR key d1 e b ∧ ∀ i j, a ≤ i → i < mid → mid ≤ j → j < b → key d1[i]! ≤ key d1[j]! := by
  obtain ⟨f1, f2, f3, f4, f5, f6, f7, f8⟩ := hR.facts ham hmb hmid
  have h0 := h.qlo; have h5 := h.qhi
  have hA : ∀ t, t < s → d1[t]! = d[t]! := fun t ht => by rw [hd t (by omega)]; unfold rotI; rw [if_neg (by omega), if_neg (by omega)]
  have hV : ∀ t, s ≤ t → t < mid → d1[t]! = d[t + (m - s)]! := fun t h1 h2 => by rw [hd t (by omega)]; unfold rotI; rw [if_pos (by omega)]
  have hU : ∀ t, mid ≤ t → t < e → d1[t]! = d[t - (e - m)]! := fun t h1 h2 => by rw [hd t (by omega)]; unfold rotI; rw [if_neg (by omega), if_pos (by omega)]
  have hB : ∀ t, e ≤ t → t < b → d1[t]! = d[t]! := fun t h1 h2 => by rw [hd t (by omega)]; unfold rotI; rw [if_neg (by omega), if_neg (by omega)]
  have hturn := h.turn hR ham hmb hmid hl hr he
  refine ⟨(hl.less (Nat.le_refl _) (by omega)).same fun t _ ht => hA t ht, fun i j h1 h2 h3 => ?_, fun i j h1 h2 h3 => ?_, (hr.less (by omega) (Nat.le_refl _)).same fun t h1 ht => hB t h1 ht, fun i j h1 h2 h3 h4 => ?_⟩
  · rw [hV i h1 (by omega), hV j (by omega) h3]; exact hr _ _ (by omega) (by omega) (by omega)
  · rw [hU i h1 (by omega), hU j (by omega) h3]; exact hl _ _ (by omega) (by omega) (by omega)
  · by_cases c1 : i < s
    · rw [hA i c1]
      by_cases c2 : j < e
      · rw [hU j h3 c2]; exact hl.le h1 (by omega) (by omega)
      · rw [hB j (by omega) h4]
        have k1 := hl.le (i := i) (j := s - 1) h1 (by omega) (by omega)
        have k2 := h.below (s - 1) (by rcases hR with ⟨e1, e2, e3⟩ | ⟨e1, e2, e3⟩ <;> omega) (by omega)
        have k3 := hr.le (i := mid + m - 1 - (s - 1)) (j := j) (by omega) (by omega) h4
        omega
    · rw [hV i (by omega) h2]
      by_cases c2 : j < e
      · rw [hU j h3 c2]
        have := hturn (j - (e - m)) (i + (m - s)) (by omega) (by omega) (by omega) (by omega)
        omega
      · rw [hB j (by omega) h4]; exact hr.le (by omega) (by omega) h4
theorem sym_join {d d1 d2 d3 : Array α} {a b mid : Nat} (h1 : Mv key a b d d1) (hx : ∀ i j, a ≤ i → i < mid → mid ≤ j → j < b → key d1[i]! ≤ key d1[j]!) (h2 : Mv key a mid d1 d2) (s2 : SR key d2 a mid) (h3 : Mv key mid b d2 d3) (s3 : SR key d3 mid b) (ham : a ≤ mid) (hmb : mid ≤ b) :
    Mv key a b d d3 ∧ SR key d3 a b := by
  refine ⟨h1.trans ((h2.wide (Nat.le_refl _) hmb).trans (h3.wide ham (Nat.le_refl _))), SR.join (mid := mid) (s2.same fun t _ ht => h3.out t (.inl ht)) s3 fun i j i1 i2 j1 j2 => ?_⟩
  rw [h3.out i (.inl i2)]
  obtain ⟨i', i3, i4, e1⟩ := h2.inn i i1 i2
  obtain ⟨j', j3, j4, e2⟩ := h3.inn j j1 j2
  rw [e1, e2, h2.out j' (.inr j3)]
  exact hx i' j' i3 i4 j3 j4
/-- The first of the left run, put among the right. -/
theorem one_left {d d2 : Array α} {a b i : Nat} (hb : b ≤ d.size) (hr : SR key d (a + 1) b) (hi : a + 1 ≤ i) (hib : i ≤ b) (hlo : ∀ t, a + 1 ≤ t → t < i → key d[t]! < key d[a]!) (hhi : ∀ t, i ≤ t → t < b → key d[a]! ≤ key d[t]!)
    (e1 : d2[i - 1]! = d[a]!) (e2 : ∀ t, a ≤ t → t < i - 1 → d2[t]! = d[t + 1]!) (e3 : ∀ t, i ≤ t → t < b → d2[t]! = d[t]!) : SR key d2 a b := fun p q h1 h2 h3 => by
  by_cases c1 : q < i - 1
  · rw [e2 p h1 (by omega), e2 q (by omega) c1]; exact hr _ _ (by omega) (by omega) (by omega)
  · by_cases c2 : q = i - 1
    · rw [c2, e1, e2 p h1 (by omega)]; have := hlo (p + 1) (by omega) (by omega); omega
    · rw [e3 q (by omega) h3]
      by_cases c3 : p < i - 1
      · rw [e2 p h1 c3]; have := hlo (p + 1) (by omega) (by omega); have := hhi q (by omega) h3; omega
      · by_cases c4 : p = i - 1
        · rw [c4, e1]; exact hhi q (by omega) h3
        · rw [e3 p (by omega) (by omega)]; exact hr p q (by omega) h2 h3
/-- The last of the right run, put among the left. -/
theorem one_right {d d2 : Array α} {a m i : Nat} (hb : m < d.size) (hl : SR key d a m) (hi : a ≤ i) (him : i ≤ m) (hlo : ∀ t, a ≤ t → t < i → key d[t]! ≤ key d[m]!) (hhi : ∀ t, i ≤ t → t < m → key d[m]! < key d[t]!)
    (e1 : d2[i]! = d[m]!) (e2 : ∀ t, i < t → t ≤ m → d2[t]! = d[t - 1]!) (e3 : ∀ t, a ≤ t → t < i → d2[t]! = d[t]!) : SR key d2 a (m + 1) := fun p q h1 h2 h3 => by
  by_cases c1 : q < i
  · rw [e3 p h1 (by omega), e3 q (by omega) c1]; exact hl _ _ h1 h2 (by omega)
  · by_cases c2 : q = i
    · rw [c2, e1, e3 p h1 (by omega)]; exact hlo p h1 (by omega)
    · rw [e2 q (by omega) (by omega)]
      by_cases c3 : p < i
      · rw [e3 p h1 c3]; exact hl _ _ h1 (by omega) (by omega)
      · by_cases c4 : p = i
        · rw [c4, e1]; have := hhi (q - 1) (by omega) (by omega); omega
        · rw [e2 p (by omega) (by omega)]; exact hl _ _ (by omega) (by omega) (by omega)
end
end Go.Bk.Stab
