/- The stable sort: insertion by blocks, merging by doubles: plain laws; stableCmpFunc and SortStableFunc, walked. -/
import Derived.Test.YtdkhaohjfclceaaSt2
import Derived.Shelf.SlSortCmp.PdqK
set_option linter.unusedVariables false
set_option linter.unusedSimpArgs false
namespace Go.Proofs.Ytdkhaohjfclceaa.St
open Go.Proofs Go.Shelf Go.RowKit Go.Lib Go.Sort
variable {P : Program} {α : Type} [Inhabited α]

section
variable {lt lt' : α → α → Bool}
theorem insInner_same (a : Nat) : ∀ (j : Nat) (d : Array α), j < d.size → (∀ y, a ≤ y → y < j → lt d[j]! d[y]! = lt' d[j]! d[y]!) → insInner lt a j d = insInner lt' a j d
  | 0, d, _, _ => rfl
  | j + 1, d, hj, h => by
    unfold insInner
    by_cases hja : j + 1 > a
    · rw [h j (by omega) (by omega)]
      split
      · refine insInner_same a j _ (by rw [size_swp]; omega) fun y h1 h2 => ?_
        rw [swp_get d hj (by omega), swp_get d hj (by omega), if_pos rfl, if_neg (by omega), if_neg (by omega)]
        exact h y h1 (by omega)
      · rfl
    · simp [hja]
theorem insOuter_same (hS : SWO lt') (a b : Nat) : ∀ (n i : Nat) (d : Array α), b - i ≤ n → a < i → b ≤ d.size → SortedIn lt' a i d → (∀ x y, i ≤ x → x < b → a ≤ y → y < x → lt d[x]! d[y]! = lt' d[x]! d[y]!) → insOuter lt a b i d = insOuter lt' a b i d
  | 0, i, d, h0, h1, h2, h3, h4 => by
    unfold insOuter
    rw [if_neg (by omega), if_neg (by omega)]
  | n + 1, i, d, h0, h1, h2, h3, h4 => by
    by_cases hib : i < b
    · rw [insOuter_go _ _ _ _ _ hib, insOuter_go _ _ _ _ _ hib, insInner_same a i d (by omega) (fun y c1 c2 => h4 i y (Nat.le_refl _) hib c1 c2)]
      have hsp := insertionSort_one hS a i d h1 (by omega) h3
      refine insOuter_same hS a b n (i + 1) _ (by omega) (by omega) (by rw [hsp.1.1]; exact h2) hsp.2 fun x y c1 c2 c3 c4 => ?_
      rw [hsp.1.2.1 x (.inr (by omega))]
      by_cases c5 : y < i + 1
      · exact permIn_all d _ a (i + 1) (fun v => lt d[x]! v = lt' d[x]! v) (by omega) hsp.1 (fun z e1 e2 => h4 x z (by omega) c2 e1 (by omega)) y c3 c5
      · rw [hsp.1.2.1 y (.inr (by omega))]
        exact h4 x y (by omega) c2 c3 c4
    · unfold insOuter
      rw [if_neg hib, if_neg hib]
where
  insertionSort_one (hS : SWO lt') (a i : Nat) (d : Array α) (h1 : a < i) (hi : i + 1 ≤ d.size) (h : SortedIn lt' a i d) : PermIn a (i + 1) d (insInner lt' a i d) ∧ SortedIn lt' a (i + 1) (insInner lt' a i d) :=
    insInner_spec hS swp_permIn permIn_refl permIn_trans a (i + 1) i (by omega) i d (by omega) (Nat.le_refl _) hi ⟨fun p q hap hpq hqi _ hq => h p q hap hpq (by omega), fun q h1 h2 => by omega⟩
theorem insertion_same (hS : SWO lt') {a b : Nat} {d : Array α} (hab : a ≤ b) (hb : b ≤ d.size) (h : ∀ x y, a ≤ y → y < x → x < b → lt d[x]! d[y]! = lt' d[x]! d[y]!) :
    PermIn a b d (insertionSort lt d a b) ∧ SortedIn lt' a b (insertionSort lt d a b) := by
  have e : insertionSort lt d a b = insertionSort lt' d a b := insOuter_same hS a b (b - (a + 1)) (a + 1) d (Nat.le_refl _) (by omega) hb (fun i j h1 h2 h3 => by omega) (fun x y h1 h2 h3 h4 => h x y h3 h4 h2)
  rw [e]
  exact insertionSort_holds hS d a b hab hb

/-- Nothing behind c and nothing ahead of it parts lt and lt'. -/
def Split (lt lt' : α → α → Bool) (n c : Nat) (d : Array α) : Prop := ∀ x y, x < c → c ≤ y → y < n → lt d[y]! d[x]! = lt' d[y]! d[x]!
theorem Split.perm {n c a b : Nat} {d d' : Array α} (h : Split lt lt' n c d) (hp : PermIn a b d d') (hb : b ≤ d.size) (hbn : b ≤ n) (hc : c ≤ a ∨ b ≤ c) : Split lt lt' n c d' := by
  intro x y h1 h2 h3
  rcases hc with hc | hc
  · rw [hp.2.1 x (.inl (by omega))]
    by_cases e : a ≤ y ∧ y < b
    · exact permIn_all d d' a b (fun v => lt v d[x]! = lt' v d[x]!) hb hp (fun z e1 e2 => h x z h1 (by omega) (by omega)) y e.1 e.2
    · rw [hp.2.1 y (by omega)]; exact h x y h1 h2 h3
  · rw [hp.2.1 y (.inr (by omega))]
    by_cases e : a ≤ x ∧ x < b
    · exact permIn_all d d' a b (fun v => lt d[y]! v = lt' d[y]! v) hb hp (fun z e1 e2 => h z y (by omega) h2 h3) x e.1 e.2
    · rw [hp.2.1 x (by omega)]; exact h x y h1 h2 h3
theorem sorted_perm {c e a b : Nat} {d d' : Array α} (h : SortedIn lt c e d) (hp : PermIn a b d d') (hc : e ≤ a ∨ b ≤ c) : SortedIn lt c e d' := by
  intro i j h1 h2 h3
  rw [hp.2.1 i (by omega), hp.2.1 j (by omega)]
  exact h i j h1 h2 h3

/-- Ahead of the first merging: a is how far the blocks are sorted. -/
structure Inv1 (lt lt' : α → α → Bool) (n bs a : Nat) (d0 d : Array α) : Prop where
  perm : PermIn 0 n d0 d
  rest : ∀ x y, a ≤ x → x < y → y < n → lt d[y]! d[x]! = lt' d[y]! d[x]!
  split : ∀ c, bs ∣ c → c ≤ a → Split lt lt' n c d
  sorted : ∀ c, bs ∣ c → c < a → SortedIn lt' c (c + bs) d
theorem Inv1.start {n bs : Nat} {d : Array α} (h : ∀ x y, x < y → y < n → lt d[y]! d[x]! = lt' d[y]! d[x]!) : Inv1 lt lt' n bs 0 d d where
  perm := permIn_refl d 0 n
  rest x y _ h1 h2 := h x y h1 h2
  split c _ h1 x y h2 h3 h4 := by omega
  sorted c _ h1 := by omega
theorem Inv1.agree {n bs a : Nat} {d0 d : Array α} (h : Inv1 lt lt' n bs a d0 d) {b : Nat} (hb : b ≤ n) : ∀ x y, a ≤ y → y < x → x < b → lt d[x]! d[y]! = lt' d[x]! d[y]! :=
  fun x y h1 h2 h3 => h.rest y x h1 h2 (by omega)
theorem dvd_gap {bs a c : Nat} (ha : bs ∣ a) (hc : bs ∣ c) (h : a < c) : a + bs ≤ c := by
  have := Nat.le_of_dvd (by omega) (Nat.dvd_sub hc ha)
  omega
theorem Inv1.step {n bs a : Nat} {d0 d d' : Array α} (h : Inv1 lt lt' n bs a d0 d) (ha : bs ∣ a) (hb0 : 0 < bs) (hbn : a + bs ≤ n) (hn : n ≤ d0.size) (hp : PermIn a (a + bs) d d') (hs : SortedIn lt' a (a + bs) d') : Inv1 lt lt' n bs (a + bs) d0 d' := by
  have hsz : d.size = d0.size := h.perm.1
  refine ⟨h.perm.trans' hp (by omega) hbn hn, ?_, ?_, ?_⟩
  · intro x y h1 h2 h3
    rw [hp.2.1 x (by omega), hp.2.1 y (by omega)]
    exact h.rest x y (by omega) h2 h3
  · intro c hc hca
    by_cases e : c ≤ a
    · exact (h.split c hc e).perm hp (by omega) hbn (.inl e)
    · obtain rfl : c = a + bs := by have := dvd_gap ha hc (by omega); omega
      refine Split.perm (d := d) ?_ hp (by omega) hbn (.inr (Nat.le_refl _))
      intro x y h1 h2 h3
      by_cases e2 : x < a
      · exact h.split a ha (Nat.le_refl _) x y e2 (by omega) h3
      · exact h.rest x y (by omega) (by omega) h3
  · intro c hc hca
    by_cases e : c < a
    · exact sorted_perm (h.sorted c hc e) hp (.inl (dvd_gap hc ha e))
    · by_cases e2 : c = a
      · subst e2; exact hs
      · have := dvd_gap ha hc (by omega); omega

/-- Blocks of bs are sorted; at each of their ends nothing parts lt and lt'. -/
structure Blocks (lt lt' : α → α → Bool) (n bs : Nat) (d0 d : Array α) : Prop where
  perm : PermIn 0 n d0 d
  sorted : ∀ c, bs ∣ c → SortedIn lt' c (min (c + bs) n) d
  split : ∀ c, bs ∣ c → Split lt lt' n c d
theorem Inv1.last {n bs a : Nat} {d0 d d' : Array α} (h : Inv1 lt lt' n bs a d0 d) (ha : bs ∣ a) (han : a ≤ n) (hb0 : n < a + bs) (hn : n ≤ d0.size) (hp : PermIn a n d d') (hs : SortedIn lt' a n d') : Blocks lt lt' n bs d0 d' := by
  have hsz : d.size = d0.size := h.perm.1
  refine ⟨h.perm.trans' hp (by omega) (Nat.le_refl _) hn, ?_, ?_⟩
  · intro c hc
    by_cases e : c < a
    · have := dvd_gap hc ha e
      rw [Nat.min_eq_left (by omega)]
      exact sorted_perm (h.sorted c hc e) hp (.inl this)
    · by_cases e2 : c = a
      · subst e2
        rw [Nat.min_eq_right (by omega)]
        exact hs
      · have := dvd_gap ha hc (by omega)
        intro i j h1 h2 h3; omega
  · intro c hc
    by_cases e : c ≤ a
    · exact (h.split c hc e).perm hp (by omega) (Nat.le_refl _) (.inl e)
    · have := dvd_gap ha hc (by omega)
      intro x y h1 h2 h3; omega
theorem Blocks.whole {n bs : Nat} {d0 d : Array α} (h : Blocks lt lt' n bs d0 d) (hb : n ≤ bs) : PermIn 0 n d0 d ∧ SortedIn lt' 0 n d := by
  have := h.sorted 0 (Nat.dvd_zero _)
  rw [Nat.min_eq_right (by omega)] at this
  exact ⟨h.perm, this⟩

/-- Within a round of merging: a is how far. -/
structure Inv3 (lt lt' : α → α → Bool) (n bs a : Nat) (d0 d : Array α) : Prop where
  perm : PermIn 0 n d0 d
  done : ∀ c, 2 * bs ∣ c → c < a → SortedIn lt' c (c + 2 * bs) d
  sorted : ∀ c, bs ∣ c → a ≤ c → SortedIn lt' c (min (c + bs) n) d
  split : ∀ c, bs ∣ c → a ≤ c → Split lt lt' n c d
  split2 : ∀ c, 2 * bs ∣ c → Split lt lt' n c d
theorem dvd_two {bs c : Nat} (h : 2 * bs ∣ c) : bs ∣ c := Nat.dvd_trans (Nat.dvd_mul_left bs 2) h
theorem Blocks.start {n bs : Nat} {d0 d : Array α} (h : Blocks lt lt' n bs d0 d) : Inv3 lt lt' n bs 0 d0 d :=
  ⟨h.perm, fun c _ h1 => by omega, fun c hc _ => h.sorted c hc, fun c hc _ => h.split c hc, fun c hc => h.split c (dvd_two hc)⟩
theorem Inv3.pre {n bs a b : Nat} {d0 d : Array α} (h : Inv3 lt lt' n bs a d0 d) (ha : 2 * bs ∣ a) (h1 : a + bs ≤ n) (h2 : a + bs ≤ b) (h3 : b ≤ a + 2 * bs) (h4 : b ≤ n) (h5 : b = n ∨ b = a + 2 * bs) :
    SortedIn lt' a (a + bs) d ∧ SortedIn lt' (a + bs) b d ∧ Agree lt lt' a (a + bs) b d := by
  have k1 := h.sorted a (dvd_two ha) (Nat.le_refl _)
  rw [Nat.min_eq_left h1] at k1
  have k2 := h.sorted (a + bs) (Nat.dvd_add (dvd_two ha) (Nat.dvd_refl _)) (by omega)
  have k3 := h.split (a + bs) (Nat.dvd_add (dvd_two ha) (Nat.dvd_refl _)) (by omega)
  refine ⟨k1, ?_, fun i j e1 e2 e3 e4 => k3 i j (by omega) e3 (by omega)⟩
  intro i j e1 e2 e3
  exact k2 i j e1 e2 (by rw [Nat.lt_min]; omega)
theorem Inv3.step {n bs a : Nat} {d0 d d' : Array α} (h : Inv3 lt lt' n bs a d0 d) (ha : 2 * bs ∣ a) (hb0 : 0 < bs) (hbn : a + 2 * bs ≤ n) (hn : n ≤ d0.size) (hp : PermIn a (a + 2 * bs) d d') (hs : SortedIn lt' a (a + 2 * bs) d') : Inv3 lt lt' n bs (a + 2 * bs) d0 d' := by
  have hsz : d.size = d0.size := h.perm.1
  refine ⟨h.perm.trans' hp (by omega) hbn hn, ?_, ?_, ?_, ?_⟩
  · intro c hc hca
    by_cases e : c < a
    · exact sorted_perm (h.done c hc e) hp (.inl (dvd_gap hc ha e))
    · by_cases e2 : c = a
      · subst e2; exact hs
      · have := dvd_gap ha hc (by omega); omega
  · intro c hc hca; exact sorted_perm (h.sorted c hc (by omega)) hp (.inr hca)
  · intro c hc hca; exact (h.split c hc (by omega)).perm hp (by omega) hbn (.inr hca)
  · intro c hc
    refine (h.split2 c hc).perm hp (by omega) hbn ?_
    by_cases e : c ≤ a
    · exact .inl e
    · exact .inr (dvd_gap ha hc (by omega))
theorem Inv3.last {n bs a : Nat} {d0 d d' : Array α} (h : Inv3 lt lt' n bs a d0 d) (ha : 2 * bs ∣ a) (han : a ≤ n) (hb0 : n < a + 2 * bs) (hn : n ≤ d0.size) (hp : PermIn a n d d') (hs : SortedIn lt' a n d') : Blocks lt lt' n (2 * bs) d0 d' := by
  have hsz : d.size = d0.size := h.perm.1
  refine ⟨h.perm.trans' hp (by omega) (Nat.le_refl _) hn, ?_, ?_⟩
  · intro c hc
    by_cases e : c < a
    · have := dvd_gap hc ha e
      rw [Nat.min_eq_left (by omega)]
      exact sorted_perm (h.done c hc e) hp (.inl this)
    · by_cases e2 : c = a
      · subst e2
        rw [Nat.min_eq_right (by omega)]
        exact hs
      · have := dvd_gap ha hc (by omega)
        intro i j h1 h2 h3; omega
  · intro c hc
    by_cases e : c ≤ a
    · exact (h.split2 c hc).perm hp (by omega) (Nat.le_refl _) (.inl e)
    · have := dvd_gap ha hc (by omega)
      intro x y h1 h2 h3; omega
theorem Inv3.idle {n bs a : Nat} {d0 d : Array α} (h : Inv3 lt lt' n bs a d0 d) (ha : 2 * bs ∣ a) (han : a ≤ n) (hb0 : n ≤ a + bs) (hbs : 0 < bs) (hn : n ≤ d0.size) : Blocks lt lt' n (2 * bs) d0 d := by
  have k1 := h.sorted a (dvd_two ha) (Nat.le_refl _)
  rw [Nat.min_eq_right hb0] at k1
  exact h.last ha han (by omega) hn (permIn_refl d a n) k1
end

set_option maxHeartbeats 8000000 in
set_option maxRecDepth 1000000 in
theorem stable (L : StL P) (hf57 : P.funcs[57]? = some Try.f57) (hf79 : P.funcs[79]? = some Try.f79) (k : Nat) (aE : ∀ w, (isAgg 32).run P w = .ok true w) (zE : ∀ w, (Go.sizeOf 32).run P w = .ok k w) (enc : α → List Value) (cf : α → α → Int) (lt' : α → α → Bool) (hS : SWO lt') (g : Nat) (cb : Array Value) (blk off cap : Nat) (d0 : Array α) (w0 : World)
    (eg : ∀ args w, (callFunc g args).run P w = .ok (.enter g args) w) (hcmp : CmpLays P g cb enc k cf blk off d0.size w0) (R : RowK enc k w0 blk off d0) (hsz : d0.size < 2305843009213693952)
    (hins : ∀ (a b : Nat) (d : Array α) (w : World), d.size = d0.size → SWK enc k w0 blk off d w → a ≤ b → b ≤ d0.size → Calls P 79 #[.slice (some ⟨blk, off, none⟩) d0.size cap, .int .i64 a, .int .i64 b, .func (.func g) #[] cb] w fun e w' => e = .returned (.tuple #[]) ∧ SWK enc k w0 blk off (Sort.insertionSort (ltOf cf) d a b) w')
    (hag : ∀ x y, x < y → y < d0.size → ltOf cf d0[y]! d0[x]! = lt' d0[y]! d0[x]!) (w : World) (S : SWK enc k w0 blk off d0 w) :
    Calls P 57 #[.slice (some ⟨blk, off, none⟩) d0.size cap, .int .i64 d0.size, .func (.func g) #[] cb] w fun e w' => e = .returned (.tuple #[]) ∧ ∃ d', PermIn 0 d0.size d0 d' ∧ SortedIn lt' 0 d0.size d' ∧ SWK enc k w0 blk off d' w' := by
  have HS := Lib.hid hS
  have HC : Aside _ := hcmp
  have HI : Aside _ := hins
  have mixed := L.mixed; have t0 := L.t0; have a0 := L.a0; have z0 := L.z0; have v0 := L.v0; have t3 := L.t3; have a3 := L.a3; have z3 := L.z3; have v3 := L.v3; have t4 := L.t4; have a4 := L.a4; have z4 := L.z4; have v4 := L.v4; have t25 := L.t25; have a25 := L.a25; have z25 := L.z25; have v25 := L.v25; have t88 := L.t88; have a88 := L.a88; have z88 := L.z88; have v88 := L.v88
  have e80 : ∀ args w, (callFunc 80 args).run P w = .ok (.enter 80 args) w := enters_of L.f80 (by kernel_rfl) rfl
  have e79 : ∀ args w, (callFunc 79 args).run P w = .ok (.enter 79 args) w := enters_of hf79 (by kernel_rfl) rfl
  have S0 : Aside (SWK enc k w0 blk off d0 w) := S
  have I0 := Lib.hid (Inv1.start (lt := ltOf cf) (lt' := lt') (n := d0.size) (bs := 20) hag)
  clear S hag hS hcmp hins
  go_enter hf57, Try.ntmps57
  go_wp2
  go_loopg [7, 8] d0.size (fun kx s7 s8 wr => ∃ (a : Nat) (dk : Array α), s7 = .int .i64 a ∧ s8 = .int .i64 ((a : Int) + 20) ∧ a ≤ d0.size ∧ d0.size - a ≤ kx ∧ dk.size = d0.size ∧ Aside (SWK enc k w0 blk off dk wr) ∧ Hid (20 ∣ a) ∧ Hid (Inv1 (ltOf cf) lt' d0.size 20 a d0 dk))
  case atStart => exact ⟨0, d0, rfl, rfl, Nat.zero_le _, by omega, rfl, S0, Nat.dvd_zero _, I0⟩
  case round =>
    clear S0 I0
    obtain ⟨a, dk, rfl, rfl, han, hkx, hds, S1, D1, I1⟩ := hrel
    by_cases hlt : a + 20 ≤ d0.size
    · have hltz : (a : Int) + 20 ≤ (d0.size : Int) := by omega
      have hcall := HI.out a (a + 20) dk wr hds S1.out (by omega) hlt
      rw [show ((a + 20 : Nat) : Int) = (a : Int) + 20 by omega] at hcall
      have hq := Lib.hid (insertion_same HS.out (lt := ltOf cf) (d := dk) (a := a) (b := a + 20) (by omega) (by omega) (I1.out.agree hlt))
      clear S1
      go_wp2_with (go_at_fn 79; refine hcall.mono ?_; rintro e w1 ⟨rfl, S3⟩)
      go_roundg (d0.size - (a + 20))
      case measure => omega
      case rel => exact ⟨a + 20, _, by go_num, by go_num, hlt, Nat.le_refl _, by rw [hq.out.1.1]; exact hds, S3, Nat.dvd_add D1.out (Nat.dvd_refl _), I1.out.step D1.out (by omega) hlt (Nat.le_refl _) hq.out.1 hq.out.2⟩
    · have hltz : ¬ ((a : Int) + 20 ≤ (d0.size : Int)) := by omega
      have hcall := HI.out a d0.size dk wr hds S1.out han (Nat.le_refl _)
      have hq := Lib.hid (insertion_same HS.out (lt := ltOf cf) (d := dk) (a := a) (b := d0.size) han (by omega) (I1.out.agree (Nat.le_refl _)))
      have B0 : Hid (Blocks (ltOf cf) lt' d0.size 20 d0 (Sort.insertionSort (ltOf cf) dk a d0.size)) := I1.out.last D1.out han (by omega) (Nat.le_refl _) hq.out.1 hq.out.2
      have hz : (Sort.insertionSort (ltOf cf) dk a d0.size).size = d0.size := by rw [hq.out.1.1]; exact hds
      clear S1 I1 hq D1
      generalize Sort.insertionSort (ltOf cf) dk a d0.size = d1 at hcall B0 hz
      go_wp2_with (go_at_fn 79; refine hcall.mono ?_; rintro e w1 ⟨rfl, S3'⟩; have S3 : Aside (SWK enc k w0 blk off d1 w1) := S3'; clear S3')
      go_loopg [6] d0.size (fun kx s6 wr => ∃ (bs : Nat) (dk : Array α), s6 = .int .i64 bs ∧ 0 < bs ∧ bs ≤ 2 * d0.size + 20 ∧ d0.size - bs ≤ kx ∧ dk.size = d0.size ∧ Aside (SWK enc k w0 blk off dk wr) ∧ Hid (Blocks (ltOf cf) lt' d0.size bs d0 dk))
      case atStart => exact ⟨20, d1, rfl, by omega, by omega, by omega, hz, S3, B0⟩
      case round =>
        clear S3 B0 hcall hz
        obtain ⟨bs, dj, rfl, hb0, hbn, hkx2, hdj, S1, B1⟩ := hrel
        by_cases hbs : bs < d0.size
        · have hbsz : (bs : Int) < (d0.size : Int) := by omega
          have I3 := Lib.hid B1.out.start
          clear B1
          go_wp2
          go_loopg [7, 8] d0.size (fun kx s7 s8 wr => ∃ (a : Nat) (dk : Array α), s7 = .int .i64 a ∧ s8 = .int .i64 ((a : Int) + 2 * (bs : Int)) ∧ a ≤ d0.size ∧ d0.size - a ≤ kx ∧ dk.size = d0.size ∧ Aside (SWK enc k w0 blk off dk wr) ∧ Hid (2 * bs ∣ a) ∧ Hid (Inv3 (ltOf cf) lt' d0.size bs a d0 dk))
          case atStart => exact ⟨0, dj, rfl, by go_num, Nat.zero_le _, by omega, hdj, S1, Nat.dvd_zero _, I3⟩
          case round =>
            clear S1 I3
            obtain ⟨c, dk, rfl, rfl, hcn, hkx3, hds2, S1, D1, I3⟩ := hrel
            by_cases hlt2 : c + 2 * bs ≤ d0.size
            · have hlt2z : (c : Int) + 2 * (bs : Int) ≤ (d0.size : Int) := by omega
              have hp := I3.out.pre D1.out (b := c + 2 * bs) (by omega) (by omega) (by omega) hlt2 (.inr rfl)
              have hcall := symMerge L k aE zE enc cf lt' HS.out g cb blk off cap d0 w0 eg HC.out R (by omega) (2 * bs) c (c + bs) (c + 2 * bs) dk wr (by omega) (by omega) (by omega) (by omega) hds2 S1.out hp.1 hp.2.1 hp.2.2
              rw [show ((c + bs : Nat) : Int) = (c : Int) + (bs : Int) by omega, show ((c + 2 * bs : Nat) : Int) = (c : Int) + 2 * (bs : Int) by omega, hds2] at hcall
              clear S1 hp
              go_wp2_with (go_at_fn 80; refine hcall.mono ?_; rintro e w1 ⟨rfl, d', hP, hQ, S3⟩)
              go_roundg (d0.size - (c + 2 * bs))
              case measure => omega
              case rel => exact ⟨c + 2 * bs, d', by go_num, by go_num, hlt2, Nat.le_refl _, by rw [hP.1]; exact hds2, S3, Nat.dvd_add D1.out (Nat.dvd_refl _), I3.out.step D1.out hb0 hlt2 (Nat.le_refl _) hP hQ⟩
            · have hlt2z : ¬ ((c : Int) + 2 * (bs : Int) ≤ (d0.size : Int)) := by omega
              by_cases hm : c + bs < d0.size
              · have hmz : (c : Int) + (bs : Int) < (d0.size : Int) := by omega
                have hp := I3.out.pre D1.out (b := d0.size) (by omega) (by omega) (by omega) (Nat.le_refl _) (.inl rfl)
                have hcall := symMerge L k aE zE enc cf lt' HS.out g cb blk off cap d0 w0 eg HC.out R (by omega) d0.size c (c + bs) d0.size dk wr (by omega) (by omega) (by omega) (by omega) hds2 S1.out hp.1 hp.2.1 hp.2.2
                rw [show ((c + bs : Nat) : Int) = (c : Int) + (bs : Int) by omega, hds2] at hcall
                clear S1 hp
                go_wp2_with (go_at_fn 80; refine hcall.mono ?_; rintro e w1 ⟨rfl, d', hP, hQ, S3⟩)
                go_roundg (d0.size - 2 * bs)
                case measure => omega
                case rel => exact ⟨2 * bs, d', by go_num, by omega, by omega, Nat.le_refl _, by rw [hP.1]; exact hds2, S3, I3.out.last D1.out hcn (by omega) (Nat.le_refl _) hP hQ⟩
              · have hmz : ¬ ((c : Int) + (bs : Int) < (d0.size : Int)) := by omega
                go_wp2
                go_roundg (d0.size - 2 * bs)
                case measure => omega
                case rel => exact ⟨2 * bs, dk, by go_num, by omega, by omega, Nat.le_refl _, hds2, S1, I3.out.idle D1.out hcn (by omega) hb0 (Nat.le_refl _)⟩
        · have hbsz : ¬ ((bs : Int) < (d0.size : Int)) := by omega
          go_wp2
          go_end0
          have hw := B1.out.whole (by omega)
          exact ⟨rfl, dj, hw.1, hw.2, S1.out⟩

#print axioms stable
end Go.Proofs.Ytdkhaohjfclceaa.St
