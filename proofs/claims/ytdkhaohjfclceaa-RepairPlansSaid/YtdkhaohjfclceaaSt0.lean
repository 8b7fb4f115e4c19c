/- The stable sort (slices.SortStableFunc): its plain laws. -/
import Derived.Sort.LotA
set_option linter.unusedVariables false
namespace Go.Proofs.Ytdkhaohjfclceaa.St
open Go.Sort
variable {α : Type} [Inhabited α]

/-- Blocks [a, a+n) and [b, b+n) exchanged. -/
def Bs (d d' : Array α) (a b n : Nat) : Prop := d'.size = d.size ∧ ∀ x, d'[x]! = if a ≤ x ∧ x < a + n then d[x - a + b]! else if b ≤ x ∧ x < b + n then d[x - b + a]! else d[x]!
theorem Bs.zero (d : Array α) (a b : Nat) : Bs d d a b 0 := by
  refine ⟨rfl, fun x => ?_⟩
  rw [if_neg (by omega), if_neg (by omega)]
theorem Bs.step {d dk : Array α} {a b i : Nat} (h : Bs d dk a b i) (hab : a + (i + 1) ≤ b) (hb : b + (i + 1) ≤ d.size) : Bs d (swp dk (a + i) (b + i)) a b (i + 1) := by
  obtain ⟨hs, hx⟩ := h
  refine ⟨by rw [size_swp]; exact hs, fun x => ?_⟩
  rw [swp_get dk (by omega) (by omega)]
  by_cases h1 : x = b + i
  · subst h1
    rw [if_pos rfl, hx, if_neg (by omega), if_neg (by omega), if_neg (by omega), if_pos (by omega)]
    congr 1; omega
  · rw [if_neg h1]
    by_cases h2 : x = a + i
    · subst h2
      rw [if_pos rfl, hx, if_neg (by omega), if_neg (by omega), if_pos (by omega)]
      congr 1; omega
    · rw [if_neg h2, hx]
      by_cases h3 : a ≤ x ∧ x < a + i
      · rw [if_pos h3, if_pos (by omega)]
      · rw [if_neg h3]
        by_cases h4 : b ≤ x ∧ x < b + i
        · rw [if_pos h4, if_neg (by omega), if_pos (by omega)]
        · rw [if_neg h4, if_neg (by omega), if_neg (by omega)]

/-- Blocks [a, m) and [m, b) in the other order. -/
def rotf (a m b : Nat) (d : Array α) (x : Nat) : α := if a ≤ x ∧ x < a + (b - m) then d[x + (m - a)]! else if a + (b - m) ≤ x ∧ x < b then d[x - (b - m)]! else d[x]!
def Rot (d d' : Array α) (a m b : Nat) : Prop := d'.size = d.size ∧ ∀ x, d'[x]! = rotf a m b d x

theorem rot_left {d dk : Array α} {m i j : Nat} (hi : i ≤ m) (hji : j < i) (h : Bs d dk (m - i) m j) (x : Nat) : rotf (m - (i - j)) m (m + j) dk x = rotf (m - i) m (m + j) d x := by
  unfold rotf
  simp only [h.2]
  by_cases c1 : m - i ≤ x ∧ x < m - i + (m + j - m)
  · rw [if_pos c1, if_neg (by omega), if_neg (by omega), if_pos (by omega)]
    congr 1; omega
  · rw [if_neg c1]
    by_cases c2 : m - i + (m + j - m) ≤ x ∧ x < m + j
    · rw [if_pos c2]
      by_cases c3 : m - (i - j) ≤ x ∧ x < m - (i - j) + (m + j - m)
      · rw [if_pos c3, if_neg (by omega), if_pos (by omega)]
        congr 1; omega
      · rw [if_neg c3, if_pos (by omega), if_neg (by omega), if_neg (by omega)]
    · rw [if_neg c2, if_neg (by omega), if_neg (by omega), if_neg (by omega), if_neg (by omega)]
theorem rot_right {d dk : Array α} {m i j : Nat} (hi : i ≤ m) (hij : i < j) (h : Bs d dk (m - i) (m + j - i) i) (x : Nat) : rotf (m - i) m (m + (j - i)) dk x = rotf (m - i) m (m + j) d x := by
  unfold rotf
  simp only [h.2]
  by_cases c1 : m - i ≤ x ∧ x < m - i + (m + j - m)
  · rw [if_pos c1]
    by_cases c3 : m - i ≤ x ∧ x < m - i + (m + (j - i) - m)
    · rw [if_pos c3, if_neg (by omega), if_neg (by omega)]
    · rw [if_neg c3, if_pos (by omega), if_pos (by omega)]
      congr 1; omega
  · rw [if_neg c1]
    by_cases c2 : m - i + (m + j - m) ≤ x ∧ x < m + j
    · rw [if_pos c2, if_neg (by omega), if_neg (by omega), if_neg (by omega), if_pos (by omega)]
      congr 1; omega
    · rw [if_neg c2, if_neg (by omega), if_neg (by omega), if_neg (by omega), if_neg (by omega)]
theorem rot_end {d dk : Array α} {m i : Nat} (hi : i ≤ m) (h : Bs d dk (m - i) m i) (x : Nat) : dk[x]! = rotf (m - i) m (m + i) d x := by
  unfold rotf
  rw [h.2]
  by_cases c1 : m - i ≤ x ∧ x < m - i + i
  · rw [if_pos c1, if_pos (by omega)]
    congr 1; omega
  · rw [if_neg c1]
    by_cases c2 : m ≤ x ∧ x < m + i
    · rw [if_pos c2, if_neg (by omega), if_pos (by omega)]
      congr 1; omega
    · rw [if_neg c2, if_neg (by omega), if_neg (by omega)]
theorem rotf_none_l (a b : Nat) (d : Array α) (x : Nat) : rotf a a b d x = d[x]! := by
  unfold rotf
  by_cases c1 : a ≤ x ∧ x < a + (b - a)
  · rw [if_pos c1]; congr 1; omega
  · rw [if_neg c1, if_neg (by omega)]
theorem rotf_none_r (a m : Nat) (d : Array α) (x : Nat) : rotf a m m d x = d[x]! := by
  unfold rotf
  by_cases c2 : a + (m - m) ≤ x ∧ x < m
  · rw [if_neg (by omega), if_pos c2]; congr 1; omega
  · rw [if_neg (by omega), if_neg c2]

/-- One step of moving d[a] to the right: 'data[k], data[k+1] = data[k+1], data[k]'. -/
theorem rot_one_right {d dk : Array α} {a k : Nat} (hk : k + 1 < d.size) (hs : dk.size = d.size) (hak : a ≤ k) (h : ∀ x, dk[x]! = rotf a (a + 1) (k + 1) d x) (x : Nat) : (swp dk k (k + 1))[x]! = rotf a (a + 1) (k + 1 + 1) d x := by
  rw [swp_get dk (by omega) (by omega)]
  simp only [h]
  unfold rotf
  by_cases h1 : x = k + 1
  · subst h1
    rw [if_pos rfl, if_neg (by omega), if_pos (by omega), if_neg (by omega), if_pos (by omega)]
    congr 1; omega
  · rw [if_neg h1]
    by_cases h2 : x = k
    · subst h2
      rw [if_pos rfl, if_neg (by omega), if_neg (by omega), if_pos (by omega)]
      congr 1; omega
    · rw [if_neg h2]
      by_cases h3 : a ≤ x ∧ x < a + (k + 1 - (a + 1))
      · rw [if_pos h3, if_pos (by omega)]
      · rw [if_neg h3, if_neg (by omega), if_neg (by omega), if_neg (by omega)]
/-- .. and of moving d[m] to the left: 'data[k], data[k-1] = data[k-1], data[k]'. -/
theorem rot_one_left {d dk : Array α} {m k : Nat} (hm : m < d.size) (hs : dk.size = d.size) (hkm : k + 1 ≤ m) (h : ∀ x, dk[x]! = rotf (k + 1) m (m + 1) d x) (x : Nat) : (swp dk (k + 1) k)[x]! = rotf k m (m + 1) d x := by
  rw [swp_get dk (by omega) (by omega)]
  simp only [h]
  unfold rotf
  by_cases h1 : x = k
  · subst h1
    rw [if_pos rfl, if_pos (by omega), if_pos (by omega)]
    congr 1; omega
  · rw [if_neg h1]
    by_cases h2 : x = k + 1
    · subst h2
      rw [if_pos rfl, if_neg (by omega), if_neg (by omega), if_neg (by omega), if_pos (by omega)]
      congr 1; omega
    · rw [if_neg h2]
      by_cases h3 : k + 1 + (m + 1 - m) ≤ x ∧ x < m + 1
      · rw [if_neg (by omega), if_pos h3, if_neg (by omega), if_pos (by omega)]
      · rw [if_neg (by omega), if_neg h3, if_neg (by omega), if_neg (by omega)]

/-! ### Merging -/
variable {lt : α → α → Bool}
/-- What is less, by lt and by lt', in whatever right one against whatever left one. -/
def Agree (lt lt' : α → α → Bool) (a m b : Nat) (d : Array α) : Prop := ∀ i j, a ≤ i → i < m → m ≤ j → j < b → lt d[j]! d[i]! = lt' d[j]! d[i]!

/-- Behind the rotation: all of [a, s + (e - m)) before all of [s + (e - m), b). -/
structure Cross (lt : α → α → Bool) (a s m e b : Nat) (d : Array α) : Prop where
  h1 : ∀ i j, a ≤ i → i < s → e ≤ j → j < b → lt d[j]! d[i]! = false
  h2 : ∀ i j, s ≤ i → i < m → m ≤ j → j < e → lt d[j]! d[i]! = true

theorem rotf_cases {a s m e b : Nat} (has : a ≤ s) (hsm : s ≤ m) (hme : m ≤ e) (heb : e ≤ b) {d d' : Array α} (h : Rot d d' s m e) (x : Nat) (h1 : a ≤ x) (h2 : x < b) :
    (x < s ∧ d'[x]! = d[x]!) ∨ (s ≤ x ∧ x < s + (e - m) ∧ d'[x]! = d[x + (m - s)]!) ∨ (s + (e - m) ≤ x ∧ x < e ∧ d'[x]! = d[x - (e - m)]!) ∨ (e ≤ x ∧ d'[x]! = d[x]!) := by
  have hx := h.2 x
  unfold rotf at hx
  by_cases c1 : s ≤ x ∧ x < s + (e - m)
  · rw [if_pos c1] at hx
    exact .inr (.inl ⟨c1.1, c1.2, hx⟩)
  · rw [if_neg c1] at hx
    by_cases c2 : s + (e - m) ≤ x ∧ x < e
    · rw [if_pos c2] at hx
      exact .inr (.inr (.inl ⟨c2.1, c2.2, hx⟩))
    · rw [if_neg c2] at hx
      by_cases c3 : x < s
      · exact .inl ⟨c3, hx⟩
      · exact .inr (.inr (.inr ⟨by omega, hx⟩))

theorem cross_rot (hS : SWO lt) {a s m e b : Nat} (has : a ≤ s) (hsm : s ≤ m) (hme : m ≤ e) (heb : e ≤ b) {d d' : Array α} (h : Rot d d' s m e) (hl : SortedIn lt a m d) (hr : SortedIn lt m b d) (hc : Cross lt a s m e b d) :
    ∀ x y, a ≤ x → x < s + (e - m) → s + (e - m) ≤ y → y < b → lt d'[y]! d'[x]! = false := by
  intro x y h1 h2 h3 h4
  rcases rotf_cases has hsm hme heb h x h1 (by omega) with ⟨c1, ex⟩ | ⟨c1, c2, ex⟩ | ⟨c1, c2, ex⟩ | ⟨c1, ex⟩
  · rcases rotf_cases has hsm hme heb h y (by omega) h4 with ⟨k1, ey⟩ | ⟨k1, k2, ey⟩ | ⟨k1, k2, ey⟩ | ⟨k1, ey⟩
    · omega
    · omega
    · rw [ex, ey]; exact hl _ _ h1 (by omega) (by omega)
    · rw [ex, ey]; exact hc.h1 _ _ h1 c1 k1 h4
  · rcases rotf_cases has hsm hme heb h y (by omega) h4 with ⟨k1, ey⟩ | ⟨k1, k2, ey⟩ | ⟨k1, k2, ey⟩ | ⟨k1, ey⟩
    · omega
    · omega
    · rw [ex, ey]
      exact hS.asymmA (hc.h2 _ _ (by omega) (by omega) (by omega) (by omega))
    · rw [ex, ey]; exact hr _ _ (by omega) (by omega) h4
  · omega
  · omega

/-- The two parts behind the rotation: each of two ascending runs. -/
theorem parts_rot {lt' : α → α → Bool} {a s m e b : Nat} (has : a ≤ s) (hsm : s ≤ m) (hme : m ≤ e) (heb : e ≤ b) {d d' : Array α} (h : Rot d d' s m e) (hl : SortedIn lt a m d) (hr : SortedIn lt m b d) (hA : Agree lt' lt a m b d) :
    (SortedIn lt a s d' ∧ SortedIn lt s (s + (e - m)) d' ∧ Agree lt' lt a s (s + (e - m)) d') ∧ (SortedIn lt (s + (e - m)) e d' ∧ SortedIn lt e b d' ∧ Agree lt' lt (s + (e - m)) e b d') := by
  have hx := h.2
  have g1 : ∀ x, x < s → d'[x]! = d[x]! := fun x hxs => by rw [hx]; unfold rotf; rw [if_neg (by omega), if_neg (by omega)]
  have g2 : ∀ x, s ≤ x → x < s + (e - m) → d'[x]! = d[x + (m - s)]! := fun x h1 h2 => by rw [hx]; unfold rotf; rw [if_pos (by omega)]
  have g3 : ∀ x, s + (e - m) ≤ x → x < e → d'[x]! = d[x - (e - m)]! := fun x h1 h2 => by rw [hx]; unfold rotf; rw [if_neg (by omega), if_pos (by omega)]
  have g4 : ∀ x, e ≤ x → d'[x]! = d[x]! := fun x hxs => by rw [hx]; unfold rotf; rw [if_neg (by omega), if_neg (by omega)]
  refine ⟨⟨?_, ?_, ?_⟩, ?_, ?_, ?_⟩
  · intro i j h1 h2 h3; rw [g1 i (by omega), g1 j (by omega)]; exact hl i j h1 h2 (by omega)
  · intro i j h1 h2 h3; rw [g2 i (by omega) (by omega), g2 j (by omega) (by omega)]; exact hr _ _ (by omega) (by omega) (by omega)
  · intro i j h1 h2 h3 h4; rw [g1 i (by omega), g2 j (by omega) (by omega)]; exact hA _ _ (by omega) (by omega) (by omega) (by omega)
  · intro i j h1 h2 h3; rw [g3 i (by omega) (by omega), g3 j (by omega) (by omega)]; exact hl _ _ (by omega) (by omega) (by omega)
  · intro i j h1 h2 h3; rw [g4 i (by omega), g4 j (by omega)]; exact hr i j (by omega) h2 h3
  · intro i j h1 h2 h3 h4; rw [g3 i (by omega) (by omega), g4 j (by omega)]; exact hA _ _ (by omega) (by omega) (by omega) (by omega)

/-- Two ascending parts, all of one before all of the other. -/
theorem sorted_glue {a c b : Nat} {d : Array α} (hac : a ≤ c) (hl : SortedIn lt a c d) (hr : SortedIn lt c b d) (hx : ∀ x y, a ≤ x → x < c → c ≤ y → y < b → lt d[y]! d[x]! = false) : SortedIn lt a b d := by
  intro i j h1 h2 h3
  by_cases hi : i < c
  · by_cases hj : j < c
    · exact hl i j h1 h2 hj
    · exact hx i j h1 hi (by omega) h3
  · exact hr i j (by omega) h2 h3

/-- What is asked of the binary search's end: (start, end) = (s, m + mid - s). -/
theorem cross_of {a s m e b : Nat} (hS : SWO lt) {d : Array α} (has : a ≤ s) (hsm : s ≤ m) (hme : m ≤ e) (heb : e ≤ b) (hl : SortedIn lt a m d) (hr : SortedIn lt m b d)
    (h1 : a < s → e < b → lt d[e]! d[s - 1]! = false) (h2 : s < m → m < e → lt d[e - 1]! d[s]! = true) : Cross lt a s m e b d where
  h1 i j c1 c2 c3 c4 := by
    have hb := h1 (by omega) (by omega)
    have hb2 : lt d[j]! d[s - 1]! = false → lt d[j]! d[i]! = false := fun hh => by
      by_cases e1 : i = s - 1
      · subst e1; exact hh
      · exact hS.ntrans _ _ _ hh (hl i (s - 1) c1 (by omega) (by omega))
    refine hb2 ?_
    by_cases e2 : j = e
    · subst e2; exact hb
    · exact hS.ntrans _ _ _ (hr e j (by omega) (by omega) c4) hb
  h2 i j c1 c2 c3 c4 := by
    have hb := h2 (by omega) (by omega)
    have k1 : lt d[j]! d[s]! = true := by
      by_cases e1 : j = e - 1
      · subst e1; exact hb
      · cases hc : lt d[j]! d[s]! with
        | true => rfl
        | false =>
          have := hS.ntrans _ _ _ (hr j (e - 1) (by omega) (by omega) (by omega)) hc
          rw [this] at hb; cases hb
    by_cases e2 : i = s
    · subst e2; exact k1
    · cases hc : lt d[j]! d[i]! with
      | true => rfl
      | false =>
        have := hS.ntrans _ _ _ hc (hl s i (by omega) (by omega) (by omega))
        rw [this] at k1; cases k1

/-! ### The search -/
/-- The pivot's test runs from false to true. -/
theorem search_mono (hS : SWO lt) {a m b p : Nat} {d : Array α} (hl : SortedIn lt a m d) (hr : SortedIn lt m b d) {c c' : Nat} (hcc : c ≤ c') (h0 : a ≤ c) (h1 : c' < m) (h2 : m + c' ≤ p) (h3 : p < b + c) (h : lt d[p - c]! d[c]! = true) : lt d[p - c']! d[c']! = true := by
  by_cases e : c = c'
  · subst e; exact h
  · cases hc : lt d[p - c']! d[c']! with
    | true => rfl
    | false =>
      have k1 := hr (p - c') (p - c) (by omega) (by omega) (by omega)
      have k2 := hl c c' h0 (by omega) h1
      have := hS.ntrans _ _ _ (hS.ntrans _ _ _ k1 hc) k2
      rw [this] at h; cases h

#print axioms search_mono
end Go.Proofs.Ytdkhaohjfclceaa.St
