/- The stable sort: symMerge, walked. (Printed by stgen.py.) -/
import Derived.Test.YtdkhaohjfclceaaSt1
import Derived.Lib.Hide
set_option linter.unusedVariables false
set_option linter.unusedSimpArgs false
namespace Go.Proofs.Ytdkhaohjfclceaa.St
open Go.Proofs Go.Shelf Go.RowKit Go.Lib Go.Sort
variable {P : Program} {α : Type} [Inhabited α]

section
variable {lt : α → α → Bool}
theorem search_one_up (hS : SWO lt) {d : Array α} {a m b h j i : Nat} (hr : SortedIn lt m b d) (hm : m ≤ h) (hb : h < b) (hL : lt d[h]! d[a]! = true)
    (hI : (∀ h, m ≤ h → h < i → lt d[h]! d[a]! = true) ∧ (∀ h, j ≤ h → h < b → lt d[h]! d[a]! = false)) :
    (∀ x, m ≤ x → x < h + 1 → lt d[x]! d[a]! = true) ∧ (∀ h, j ≤ h → h < b → lt d[h]! d[a]! = false) := by
  refine ⟨fun x h1 h2 => ?_, hI.2⟩
  by_cases e : x = h
  · subst e; exact hL
  · cases hc : lt d[x]! d[a]! with
    | true => rfl
    | false =>
      have := hS.ntrans _ _ _ (hr x h h1 (by omega) hb) hc
      rw [this] at hL; cases hL
theorem search_one_down (hS : SWO lt) {d : Array α} {a m b h j i : Nat} (hr : SortedIn lt m b d) (hm : m ≤ h) (hL : lt d[h]! d[a]! = false)
    (hI : (∀ h, m ≤ h → h < i → lt d[h]! d[a]! = true) ∧ (∀ h, j ≤ h → h < b → lt d[h]! d[a]! = false)) :
    (∀ h, m ≤ h → h < i → lt d[h]! d[a]! = true) ∧ (∀ x, h ≤ x → x < b → lt d[x]! d[a]! = false) := by
  refine ⟨hI.1, fun x h1 h2 => ?_⟩
  by_cases e : x = h
  · subst e; exact hL
  · exact hS.ntrans _ _ _ (hr h x hm (by omega) h2) hL
theorem search_two_up (hS : SWO lt) {d : Array α} {a m h j i : Nat} (hl : SortedIn lt a m d) (hm : h < m) (hL : lt d[m]! d[h]! = false)
    (hI : (∀ h, a ≤ h → h < i → lt d[m]! d[h]! = false) ∧ (∀ h, j ≤ h → h < m → lt d[m]! d[h]! = true)) :
    (∀ x, a ≤ x → x < h + 1 → lt d[m]! d[x]! = false) ∧ (∀ h, j ≤ h → h < m → lt d[m]! d[h]! = true) := by
  refine ⟨fun x h1 h2 => ?_, hI.2⟩
  by_cases e : x = h
  · subst e; exact hL
  · exact hS.ntrans _ _ _ hL (hl x h h1 (by omega) hm)
theorem search_two_down (hS : SWO lt) {d : Array α} {a m h j i : Nat} (hl : SortedIn lt a m d) (ha : a ≤ h) (hL : lt d[m]! d[h]! = true)
    (hI : (∀ h, a ≤ h → h < i → lt d[m]! d[h]! = false) ∧ (∀ h, j ≤ h → h < m → lt d[m]! d[h]! = true)) :
    (∀ h, a ≤ h → h < i → lt d[m]! d[h]! = false) ∧ (∀ x, h ≤ x → x < m → lt d[m]! d[x]! = true) := by
  refine ⟨hI.1, fun x h1 h2 => ?_⟩
  by_cases e : x = h
  · subst e; exact hL
  · cases hc : lt d[m]! d[x]! with
    | true => rfl
    | false =>
      have := hS.ntrans _ _ _ hc (hl h x ha (by omega) h2)
      rw [this] at hL; cases hL
theorem sorted_one (a : Nat) (d : Array α) (b : Nat) (hb : b ≤ a + 1) : SortedIn lt a b d := fun i j h1 h2 h3 => by omega
theorem merge_one_l (hS : SWO lt) {d d' : Array α} {a m i b : Nat} (e2 : m = a + 1) (hmi : m ≤ i) (hib : i ≤ b) (hr : SortedIn lt m b d)
    (h1 : ∀ h, m ≤ h → h < i → lt d[h]! d[a]! = true) (h2 : ∀ h, i ≤ h → h < b → lt d[h]! d[a]! = false) (h : Rot d d' a m i) : SortedIn lt a b d' := by
  have hl : SortedIn lt a m d := sorted_one a d m (by omega)
  have hX : Cross lt a a m i b d := ⟨fun x y c1 c2 => by omega, fun x y c1 c2 c3 c4 => by rw [show x = a by omega]; exact h1 y c3 c4⟩
  have hA : Agree lt lt a m b d := fun _ _ _ _ _ _ => rfl
  have hc := cross_rot hS (Nat.le_refl a) (by omega) hmi hib h hl hr hX
  obtain ⟨⟨-, p2, -⟩, p3, p4, -⟩ := parts_rot (Nat.le_refl a) (by omega) hmi hib h hl hr hA
  refine sorted_glue (c := a + (i - m)) (by omega) p2 ?_ hc
  refine sorted_glue (c := i) (by omega) p3 p4 fun x y c1 c2 c3 c4 => ?_
  have ex := h.2 x
  have ey := h.2 y
  unfold rotf at ex ey
  rw [if_neg (by omega), if_pos (by omega), show x - (i - m) = a by omega] at ex
  rw [if_neg (by omega), if_neg (by omega)] at ey
  rw [ex, ey]
  exact h2 y c3 c4
theorem merge_one_r (hS : SWO lt) {d d' : Array α} {a m i b : Nat} (e2 : b = m + 1) (hai : a ≤ i) (him : i ≤ m) (hl : SortedIn lt a m d)
    (h1 : ∀ h, a ≤ h → h < i → lt d[m]! d[h]! = false) (h2 : ∀ h, i ≤ h → h < m → lt d[m]! d[h]! = true) (h : Rot d d' i m b) : SortedIn lt a b d' := by
  have hr : SortedIn lt m b d := sorted_one m d b (by omega)
  have hX : Cross lt a i m b b d := ⟨fun x y c1 c2 c3 c4 => by omega, fun x y c1 c2 c3 c4 => by rw [show y = m by omega]; exact h2 x c1 c2⟩
  have hA : Agree lt lt a m b d := fun _ _ _ _ _ _ => rfl
  have hc := cross_rot hS hai him (by omega) (Nat.le_refl b) h hl hr hX
  obtain ⟨⟨p1, p2, -⟩, p3, p4, -⟩ := parts_rot hai him (by omega) (Nat.le_refl b) h hl hr hA
  refine sorted_glue (c := i + (b - m)) (by omega) ?_ p3 hc
  refine sorted_glue (c := i) (by omega) p1 p2 fun x y c1 c2 c3 c4 => ?_
  have ex := h.2 x
  have ey := h.2 y
  unfold rotf at ex ey
  rw [if_neg (by omega), if_neg (by omega)] at ex
  rw [if_pos (by omega), show y + (m - i) = m by omega] at ey
  rw [ex, ey]
  exact h1 x c1 c2
theorem cross_end (hS : SWO lt) {d : Array α} {a s m e b mid s0 r0 : Nat} (has : a ≤ s) (hsm : s ≤ m) (hme : m ≤ e) (heb : e ≤ b) (hl : SortedIn lt a m d) (hr : SortedIn lt m b d) (hn : e + s = mid + m)
    (hI : (s0 < s → lt d[mid + m - 1 - (s - 1)]! d[s - 1]! = false) ∧ (s < r0 → lt d[mid + m - 1 - s]! d[s]! = true)) (h5 : a < s → e < b → s0 < s) (h6 : s < m → m < e → s < r0) : Cross lt a s m e b d := by
  refine cross_of hS has hsm hme heb hl hr (fun c1 c2 => ?_) (fun c1 c2 => ?_)
  · have := hI.1 (h5 c1 c2)
    rwa [show mid + m - 1 - (s - 1) = e by omega] at this
  · have := hI.2 (h6 c1 c2)
    rwa [show mid + m - 1 - s = e - 1 by omega] at this
/-- What lies behind the rotation. -/
structure Parts (lt lt' : α → α → Bool) (a s mid e b : Nat) (d d' : Array α) : Prop where
  perm : PermIn a b d d'
  l1 : SortedIn lt' a s d'
  l2 : SortedIn lt' s mid d'
  lA : Agree lt lt' a s mid d'
  r1 : SortedIn lt' mid e d'
  r2 : SortedIn lt' e b d'
  rA : Agree lt lt' mid e b d'
  cross : ∀ x y, a ≤ x → x < mid → mid ≤ y → y < b → lt' d'[y]! d'[x]! = false
theorem after_rot {lt' : α → α → Bool} (hS : SWO lt') {d d' : Array α} {a s m e b mid : Nat} (has : a ≤ s) (hsm : s ≤ m) (hme : m ≤ e) (heb : e ≤ b) (hmid : s + (e - m) = mid) (h : Rot d d' s m e) (hp : PermIn a b d d')
    (hl : SortedIn lt' a m d) (hr : SortedIn lt' m b d) (hA : Agree lt lt' a m b d) (hX : Cross lt' a s m e b d) : Parts lt lt' a s mid e b d d' := by
  subst hmid
  have p := parts_rot has hsm hme heb h hl hr hA
  exact ⟨hp, p.1.1, p.1.2.1, p.1.2.2, p.2.1, p.2.2.1, p.2.2.2, cross_rot hS has hsm hme heb h hl hr hX⟩
theorem rot_idle {d : Array α} {s m e : Nat} (h : s = m ∨ m = e) : Rot d d s m e := by
  refine ⟨rfl, fun x => ?_⟩
  rcases h with rfl | rfl
  · exact (rotf_none_l s e d x).symm
  · exact (rotf_none_r s m d x).symm
theorem _root_.Go.Sort.PermIn.trans' {d d1 d2 : Array α} {a b a' b' : Nat} (h : PermIn a b d d1) (k : PermIn a' b' d1 d2) (h1 : a ≤ a') (h2 : b' ≤ b) (h3 : b ≤ d.size) : PermIn a b d d2 :=
  permIn_trans _ _ _ _ _ h (permIn_mono _ _ _ _ _ _ h1 h2 (by rw [h.1]; exact h3) k)
theorem sorted_behind {d d1 : Array α} {a b' c e : Nat} (h : SortedIn lt c e d) (hp : PermIn a b' d d1) (hc : b' ≤ c) : SortedIn lt c e d1 := fun i j h1 h2 h3 => by
  rw [hp.2.1 i (.inr (by omega)), hp.2.1 j (.inr (by omega))]; exact h i j h1 h2 h3
theorem agree_behind {lt' : α → α → Bool} {d d1 : Array α} {a b' c m e : Nat} (h : Agree lt lt' c m e d) (hp : PermIn a b' d d1) (hc : b' ≤ c) : Agree lt lt' c m e d1 := fun i j h1 h2 h3 h4 => by
  rw [hp.2.1 i (.inr (by omega)), hp.2.1 j (.inr (by omega))]; exact h i j h1 h2 h3 h4
theorem sorted_other {d d1 : Array α} {a c b : Nat} (h : SortedIn lt a c d) (hp : PermIn c b d d1) (_ : a ≤ c) : SortedIn lt a c d1 := fun i j h1 h2 h3 => by
  rw [hp.2.1 i (.inl (by omega)), hp.2.1 j (.inl (by omega))]; exact h i j h1 h2 h3
theorem cross_first {d d1 : Array α} {a c b : Nat} (h : ∀ x y, a ≤ x → x < c → c ≤ y → y < b → lt d[y]! d[x]! = false) (hp : PermIn a c d d1) (hc : c ≤ d.size) :
    ∀ x y, a ≤ x → x < c → c ≤ y → y < b → lt d1[y]! d1[x]! = false := by
  intro x y h1 h2 h3 h4
  rw [hp.2.1 y (.inr h3)]
  exact permIn_all d d1 a c (fun v => lt d[y]! v = false) hc hp (fun i c1 c2 => h i y c1 c2 h3 h4) x h1 h2
theorem cross_second {d d1 : Array α} {a c b : Nat} (h : ∀ x y, a ≤ x → x < c → c ≤ y → y < b → lt d[y]! d[x]! = false) (hp : PermIn c b d d1) (hb : b ≤ d.size) :
    ∀ x y, a ≤ x → x < c → c ≤ y → y < b → lt d1[y]! d1[x]! = false := by
  intro x y h1 h2 h3 h4
  rw [hp.2.1 x (.inl h2)]
  exact permIn_all d d1 c b (fun v => lt v d[x]! = false) hb hp (fun i c1 c2 => h x i h1 h2 c1 c2) y h3 h4
/-- What lies behind the first of the two calls. -/
structure Mid (lt lt' : α → α → Bool) (a mid e b : Nat) (d d' : Array α) : Prop where
  perm : PermIn a b d d'
  ps : SortedIn lt' a mid d'
  r1 : SortedIn lt' mid e d'
  r2 : SortedIn lt' e b d'
  rA : Agree lt lt' mid e b d'
  cross : ∀ x y, a ≤ x → x < mid → mid ≤ y → y < b → lt' d'[y]! d'[x]! = false
theorem run_idle {d : Array α} {a s c : Nat} (h1 : SortedIn lt a s d) (h2 : SortedIn lt s c d) (h : s = a ∨ s = c) : SortedIn lt a c d := by
  rcases h with rfl | rfl
  · exact h2
  · exact h1
theorem Parts.first {lt' : α → α → Bool} {a s mid e b : Nat} {d d3 d4 : Array α} (h : Parts lt lt' a s mid e b d d3) (hp : PermIn a mid d3 d4) (hs : SortedIn lt' a mid d4) (h1 : mid ≤ b) (hme : mid ≤ e) (hb : b ≤ d.size) : Mid lt lt' a mid e b d d4 :=
  ⟨h.perm.trans' hp (Nat.le_refl _) h1 hb, hs, sorted_behind h.r1 hp (Nat.le_refl _), sorted_behind h.r2 hp hme, agree_behind h.rA hp (Nat.le_refl _), cross_first h.cross hp (by rw [h.perm.1]; omega)⟩
theorem Parts.idle {lt' : α → α → Bool} {a s mid e b : Nat} {d d3 : Array α} (h : Parts lt lt' a s mid e b d d3) (hs : s = a ∨ s = mid) : Mid lt lt' a mid e b d d3 :=
  ⟨h.perm, run_idle h.l1 h.l2 hs, h.r1, h.r2, h.rA, h.cross⟩
theorem Mid.fin {lt' : α → α → Bool} {a mid e b : Nat} {d d4 d5 : Array α} (h : Mid lt lt' a mid e b d d4) (hp : PermIn mid b d4 d5) (hs : SortedIn lt' mid b d5) (ham : a ≤ mid) (hb : b ≤ d.size) : PermIn a b d d5 ∧ SortedIn lt' a b d5 :=
  ⟨h.perm.trans' hp ham (Nat.le_refl _) hb, sorted_glue ham (sorted_other h.ps hp ham) hs (cross_second h.cross hp (by rw [h.perm.1]; omega))⟩
theorem Mid.idle {lt' : α → α → Bool} {a mid e b : Nat} {d d4 : Array α} (h : Mid lt lt' a mid e b d d4) (he : e = mid ∨ e = b) (ham : a ≤ mid) : PermIn a b d d4 ∧ SortedIn lt' a b d4 :=
  ⟨h.perm, sorted_glue ham h.ps (run_idle h.r1 h.r2 he) h.cross⟩
end


set_option maxHeartbeats 32000000 in
set_option maxRecDepth 1000000 in
theorem symMerge (L : StL P) (k : Nat) (aE : ∀ w, (isAgg 32).run P w = .ok true w) (zE : ∀ w, (Go.sizeOf 32).run P w = .ok k w) (enc : α → List Value) (cf : α → α → Int) (lt' : α → α → Bool) (hS : SWO lt') (g : Nat) (cb : Array Value) (blk off cap : Nat) (d0 : Array α) (w0 : World)
    (eg : ∀ args w, (callFunc g args).run P w = .ok (.enter g args) w) (hcmp : CmpLays P g cb enc k cf blk off d0.size w0) (R : RowK enc k w0 blk off d0) (hsz : d0.size < 4611686018427387904) :
    ∀ (N : Nat) (a m b : Nat) (d : Array α) (w : World), b - a ≤ N → a < m → m < b → b ≤ d.size → d.size = d0.size → SWK enc k w0 blk off d w → SortedIn lt' a m d → SortedIn lt' m b d → Agree (ltOf cf) lt' a m b d →
      Calls P 80 #[.slice (some ⟨blk, off, none⟩) d.size cap, .int .i64 a, .int .i64 m, .int .i64 b, .func (.func g) #[] cb] w fun e w' => e = .returned (.tuple #[]) ∧ ∃ d', PermIn a b d d' ∧ SortedIn lt' a b d' ∧ SWK enc k w0 blk off d' w' := by
  have HS := Lib.hid hS
  have HC : Aside _ := hcmp
  clear hS hcmp
  intro N
  induction N with
  | zero => intro a m b d w h0 h1 h2; omega
  | succ N ih0 =>
    intro a m b d w hN ham hmb hbd hds0 S hl hr hag
    have hs : d0.size = d.size := hds0.symm
    rw [hs] at hsz HC
    have ih : ∀ (a' m' b' : Nat) (d' : Array α) (w' : World), b' - a' ≤ N → a' < m' → m' < b' → b' ≤ d.size → d'.size = d.size → SWK enc k w0 blk off d' w' → SortedIn lt' a' m' d' → SortedIn lt' m' b' d' → Agree (ltOf cf) lt' a' m' b' d' →
        Calls P 80 #[.slice (some ⟨blk, off, none⟩) d.size cap, .int .i64 a', .int .i64 m', .int .i64 b', .func (.func g) #[] cb] w' fun e w'' => e = .returned (.tuple #[]) ∧ ∃ d'', PermIn a' b' d' d'' ∧ SortedIn lt' a' b' d'' ∧ SWK enc k w0 blk off d'' w'' := fun a' m' b' d' w' q1 q2 q3 q4 q5 q6 q7 q8 q9 => by
      have h := ih0 a' m' b' d' w' q1 q2 q3 (by omega) (by omega) q6 q7 q8 q9
      rw [q5] at h
      exact h
    have mixed := L.mixed; have t0 := L.t0; have a0 := L.a0; have z0 := L.z0; have v0 := L.v0; have t3 := L.t3; have a3 := L.a3; have z3 := L.z3; have v3 := L.v3; have t4 := L.t4; have a4 := L.a4; have z4 := L.z4; have v4 := L.v4; have t25 := L.t25; have a25 := L.a25; have z25 := L.z25; have v25 := L.v25; have t88 := L.t88; have a88 := L.a88; have z88 := L.z88; have v88 := L.v88; have t150 := L.t150; have a150 := L.a150; have z150 := L.z150; have v150 := L.v150
    have e80 : ∀ args w, (callFunc 80 args).run P w = .ok (.enter 80 args) w := enters_of L.f80 (by kernel_rfl) rfl
    have e97 : ∀ args w, (callFunc 97 args).run P w = .ok (.enter 97 args) w := enters_of L.f97 (by kernel_rfl) rfl
    have FG := L.f80
    have S0 : Aside (SWK enc k w0 blk off d w) := S
    have HL0 := Lib.hid hl
    have HR := Lib.hid hr
    have HA := Lib.hid hag
    have IH := Lib.hid ih
    clear S hl hr hag ih0 ih hds0
    go_enter FG, Try.ntmps80
    by_cases hA : m = a + 1
    · have hA1 : m ≤ a + 1 := by omega
      clear hA
      have hAz : (m : Int) - (a : Int) = 1 := by omega
      go_wp2
      go_loopg [10, 11] (b - m) (fun kx s10 s11 wr => ∃ (i j : Nat), s10 = .int .i64 i ∧ s11 = .int .i64 j ∧ m ≤ i ∧ i ≤ j ∧ j ≤ b ∧ j - i ≤ kx ∧ Aside (SWK enc k w0 blk off d wr) ∧ Hid ((∀ h, m ≤ h → h < i → lt' d[h]! d[a]! = true) ∧ (∀ h, j ≤ h → h < b → lt' d[h]! d[a]! = false)))
      case atStart => exact ⟨m, b, rfl, rfl, Nat.le_refl _, by omega, Nat.le_refl _, Nat.le_refl _, S0, (⟨fun h h1 h2 => absurd h1 (by omega), fun h h1 h2 => absurd h1 (by omega)⟩ : (∀ h, m ≤ h → h < m → lt' d[h]! d[a]! = true) ∧ (∀ h, b ≤ h → h < b → lt' d[h]! d[a]! = false))⟩
      case round =>
        clear S0
        obtain ⟨i, j, rfl, rfl, hmi, hij, hjb, hkx, S1, HI⟩ := hrel
        by_cases hlt : i < j
        · have hltz : (i : Int) < (j : Int) := by omega
          obtain ⟨h, hh1, hh2⟩ : ∃ h : Nat, 2 * h ≤ i + j ∧ i + j < 2 * h + 2 := ⟨(i + j) / 2, by omega, by omega⟩
          have hhz : ((i : Int) + (j : Int)) / 2 = (h : Int) := by omega
          have hag := HA.out a h (Nat.le_refl _) (by omega) (by omega) (by omega)
          have HG := Lib.hid hag
          clear hag
          cases hL : ltOf cf d[h]! d[a]! with
          | true =>
            have HL : Hid (lt' d[h]! d[a]! = true) := HG.out ▸ hL
            have ea201 : ((h : Int)).toNat = h := by omega
            have pa201 : (0 : Int) ≤ (h : Int) := by omega
            have ba201 : (h : Int) < (d.size : Int) := by omega
            have ra201 : IntKind.i64.wrap ((h : Int)) = (h : Int) := by rw [IntKind.wrap_i64]; omega
            have ec201 : ((a : Int)).toNat = a := by omega
            have pc201 : (0 : Int) ≤ (a : Int) := by omega
            have bc201 : (a : Int) < (d.size : Int) := by omega
            have rc201 : IntKind.i64.wrap ((a : Int)) = (a : Int) := by rw [IntKind.wrap_i64]; omega
            obtain ⟨x201, hx201⟩ : ∃ x, x = d[h]! := ⟨_, rfl⟩
            obtain ⟨y201, hy201⟩ : ∃ x, x = d[a]! := ⟨_, rfl⟩
            have l201a := S1.out.ld R (by omega) P (h) (by omega)
            have l201b := S1.out.ld R (by omega) P (a) (by omega)
            rw [← hx201] at l201a
            rw [← hy201] at l201b
            have hc201 := S1.out.cmp HC.out (by omega) x201 y201
            have hv201 : cf x201 y201 < 0 := by rw [hx201, hy201]; exact of_decide_eq_true hL
            have hd201 : decide (cf x201 y201 < 0) = true := decide_eq_true hv201
            clear hx201 hy201
            go_wp2_with fail
            go_quiet_grown (first | (go_at_fn g; refine Calls.grown_of (hc201 _ _)))
            have S2 : Aside (SWK enc k w0 blk off d (grow (wr.drewN nq) osq)) := S1.out.grown nq osq
            clear l201a l201b hc201 S1 ea201 pa201 ba201 ra201 ec201 pc201 bc201 rc201
            generalize grow (wr.drewN nq) osq = w2 at S2 ⊢
            clear nq osq
            clear hL
            go_wp2
            go_roundg (j - (h + 1))
            case measure => omega
            case rel => exact ⟨h + 1, j, by go_num, rfl, by omega, by omega, hjb, Nat.le_refl _, S2, (search_one_up HS.out HR.out (by omega) (by omega) HL.out HI.out)⟩
          | false =>
            have HL : Hid (lt' d[h]! d[a]! = false) := HG.out ▸ hL
            have ea202 : ((h : Int)).toNat = h := by omega
            have pa202 : (0 : Int) ≤ (h : Int) := by omega
            have ba202 : (h : Int) < (d.size : Int) := by omega
            have ra202 : IntKind.i64.wrap ((h : Int)) = (h : Int) := by rw [IntKind.wrap_i64]; omega
            have ec202 : ((a : Int)).toNat = a := by omega
            have pc202 : (0 : Int) ≤ (a : Int) := by omega
            have bc202 : (a : Int) < (d.size : Int) := by omega
            have rc202 : IntKind.i64.wrap ((a : Int)) = (a : Int) := by rw [IntKind.wrap_i64]; omega
            obtain ⟨x202, hx202⟩ : ∃ x, x = d[h]! := ⟨_, rfl⟩
            obtain ⟨y202, hy202⟩ : ∃ x, x = d[a]! := ⟨_, rfl⟩
            have l202a := S1.out.ld R (by omega) P (h) (by omega)
            have l202b := S1.out.ld R (by omega) P (a) (by omega)
            rw [← hx202] at l202a
            rw [← hy202] at l202b
            have hc202 := S1.out.cmp HC.out (by omega) x202 y202
            have hv202 : ¬ cf x202 y202 < 0 := by rw [hx202, hy202]; exact of_decide_eq_false hL
            have hd202 : decide (cf x202 y202 < 0) = false := decide_eq_false hv202
            clear hx202 hy202
            go_wp2_with fail
            go_quiet_grown (first | (go_at_fn g; refine Calls.grown_of (hc202 _ _)))
            have S2 : Aside (SWK enc k w0 blk off d (grow (wr.drewN nq) osq)) := S1.out.grown nq osq
            clear l202a l202b hc202 S1 ea202 pa202 ba202 ra202 ec202 pc202 bc202 rc202
            generalize grow (wr.drewN nq) osq = w2 at S2 ⊢
            clear nq osq
            clear hL
            go_wp2
            go_roundg (h - i)
            case measure => omega
            case rel => exact ⟨i, h, rfl, rfl, hmi, by omega, by omega, Nat.le_refl _, S2, (search_one_down HS.out HR.out (by omega) HL.out HI.out)⟩
        · obtain rfl : j = i := by omega
          have hi1 : (j : Int) - 1 = ((j - 1 : Nat) : Int) := by omega
          go_wp2
          go_loopg [13] (j - 1 - a) (fun kx s13 wr => ∃ (kk : Nat) (dk : Array α), s13 = .int .i64 kk ∧ a ≤ kk ∧ kk + 1 ≤ j ∧ j - 1 - kk ≤ kx ∧ dk.size = d.size ∧ Aside (SWK enc k w0 blk off dk wr) ∧ Hid (∀ x, dk[x]! = rotf a (a + 1) (kk + 1) d x) ∧ Hid (PermIn a b d dk))
          case atStart => exact ⟨a, d, rfl, Nat.le_refl _, by omega, Nat.le_refl _, rfl, S1, (fun x => (rotf_none_r a (a + 1) d x).symm), permIn_refl d a b⟩
          case round =>
            clear S1
            obtain ⟨kk, dk, rfl, hak, hkj, hkx2, hds, S1, HRo, HP⟩ := hrel
            by_cases hk2 : kk + 1 < j
            · have hk2z : (kk : Int) < ((j - 1 : Nat) : Int) := by omega
              have hk3z : (kk : Int) < (j : Int) - 1 := by omega
              go_wp2_with fail
              have ea203 : ((kk : Int)).toNat = kk := by omega
              have pa203 : (0 : Int) ≤ (kk : Int) := by omega
              have ba203 : (kk : Int) < (d.size : Int) := by omega
              have ra203 : IntKind.i64.wrap ((kk : Int)) = (kk : Int) := by rw [IntKind.wrap_i64]; omega
              have ec203 : ((kk : Int) + 1).toNat = kk + 1 := by omega
              have pc203 : (0 : Int) ≤ (kk : Int) + 1 := by omega
              have bc203 : (kk : Int) + 1 < (d.size : Int) := by omega
              have rc203 : IntKind.i64.wrap ((kk : Int) + 1) = (kk : Int) + 1 := by rw [IntKind.wrap_i64]; omega
              have S2 : Aside (SWK enc k w0 blk off (swp dk (kk) (kk + 1)) ((wr.drew.setCells blk (off + (kk) * k) (enc dk[kk + 1]!)).setCells blk (off + (kk + 1) * k) (enc dk[kk]!))) := S1.out.swapped R (kk) (kk + 1) (by omega) (by omega)
              have l203a := S1.out.ld1 R (by omega) P (kk) (by omega)
              have l203b := S1.out.ld1 R (by omega) P (kk + 1) (by omega)
              have s203a := S1.out.st1 R (by omega) P (kk) (by omega) dk[kk + 1]!
              have s203b := S1.out.st2 R (by omega) P (kk) (kk + 1) (by omega) (by omega) dk[kk + 1]! dk[kk]!
              have n203a : (enc dk[kk]!).length = k := R.hk _
              have n203b : (enc dk[kk + 1]!).length = k := R.hk _
              generalize enc dk[kk]! = cI203 at S2 l203a s203b n203a
              generalize enc dk[kk + 1]! = cJ203 at S2 l203b s203a s203b n203b
              clear S1
              go_wp2_with fail
              go_big_region_o
              clear l203a l203b s203a s203b
              generalize (wr.drew.setCells blk (off + (kk) * k) cJ203).setCells blk (off + (kk + 1) * k) cI203 = w2 at S2 ⊢
              go_wp2
              go_roundg (j - 1 - (kk + 1))
              case measure => omega
              case rel => exact ⟨kk + 1, swp dk kk (kk + 1), by go_num, by omega, by omega, Nat.le_refl _, by rw [size_swp]; exact hds, S2, (rot_one_right (by omega) hds hak HRo.out), permIn_trans _ _ _ _ _ HP.out (swp_permIn dk a b kk (kk + 1) (by omega) (by omega) (by omega) (by omega) (by omega))⟩
            · have hk2z : ¬ ((kk : Int) < ((j - 1 : Nat) : Int)) := by omega
              have hk3z : ¬ ((kk : Int) < (j : Int) - 1) := by omega
              go_wp2
              (try simp only [Exit.inBlock, Exit.then]); refine bodyPost_ret (results_none rfl _ _ _) rfl ?_
              have e1 : kk + 1 = j := by omega
              have hro := HRo.out
              rw [e1] at hro
              have e2 : m = a + 1 := by omega
              exact ⟨rfl, dk, HP.out, merge_one_l HS.out e2 hmi (by omega) HR.out HI.out.1 HI.out.2 ⟨hds, by rw [e2]; exact hro⟩, S1.out⟩
    · have hA1 : a + 2 ≤ m := by omega
      clear hA
      have hAz : ¬ ((m : Int) - (a : Int) = 1) := by omega
      have hAzb : ((m : Int) - (a : Int) == 1) = false := by simpa using hAz
      by_cases hB : b = m + 1
      · have hB1 : b ≤ m + 1 := by omega
        clear hB
        have hBz : (b : Int) - (m : Int) = 1 := by omega
        go_wp2
        go_loopg [14, 15] (m - a) (fun kx s14 s15 wr => ∃ (i j : Nat), s14 = .int .i64 i ∧ s15 = .int .i64 j ∧ a ≤ i ∧ i ≤ j ∧ j ≤ m ∧ j - i ≤ kx ∧ Aside (SWK enc k w0 blk off d wr) ∧ Hid ((∀ h, a ≤ h → h < i → lt' d[m]! d[h]! = false) ∧ (∀ h, j ≤ h → h < m → lt' d[m]! d[h]! = true)))
        case atStart => exact ⟨a, m, rfl, rfl, Nat.le_refl _, by omega, Nat.le_refl _, Nat.le_refl _, S0, (⟨fun h h1 h2 => absurd h1 (by omega), fun h h1 h2 => absurd h1 (by omega)⟩ : (∀ h, a ≤ h → h < a → lt' d[m]! d[h]! = false) ∧ (∀ h, m ≤ h → h < m → lt' d[m]! d[h]! = true))⟩
        case round =>
          clear S0
          obtain ⟨i, j, rfl, rfl, hmi, hij, hjb, hkx, S1, HI⟩ := hrel
          by_cases hlt : i < j
          · have hltz : (i : Int) < (j : Int) := by omega
            obtain ⟨h, hh1, hh2⟩ : ∃ h : Nat, 2 * h ≤ i + j ∧ i + j < 2 * h + 2 := ⟨(i + j) / 2, by omega, by omega⟩
            have hhz : ((i : Int) + (j : Int)) / 2 = (h : Int) := by omega
            have hag := HA.out h m (by omega) (by omega) (Nat.le_refl _) (by omega)
            have HG := Lib.hid hag
            clear hag
            cases hL : ltOf cf d[m]! d[h]! with
            | false =>
              have HL : Hid (lt' d[m]! d[h]! = false) := HG.out ▸ hL
              have ea204 : ((m : Int)).toNat = m := by omega
              have pa204 : (0 : Int) ≤ (m : Int) := by omega
              have ba204 : (m : Int) < (d.size : Int) := by omega
              have ra204 : IntKind.i64.wrap ((m : Int)) = (m : Int) := by rw [IntKind.wrap_i64]; omega
              have ec204 : ((h : Int)).toNat = h := by omega
              have pc204 : (0 : Int) ≤ (h : Int) := by omega
              have bc204 : (h : Int) < (d.size : Int) := by omega
              have rc204 : IntKind.i64.wrap ((h : Int)) = (h : Int) := by rw [IntKind.wrap_i64]; omega
              obtain ⟨x204, hx204⟩ : ∃ x, x = d[m]! := ⟨_, rfl⟩
              obtain ⟨y204, hy204⟩ : ∃ x, x = d[h]! := ⟨_, rfl⟩
              have l204a := S1.out.ld R (by omega) P (m) (by omega)
              have l204b := S1.out.ld R (by omega) P (h) (by omega)
              rw [← hx204] at l204a
              rw [← hy204] at l204b
              have hc204 := S1.out.cmp HC.out (by omega) x204 y204
              have hv204 : ¬ cf x204 y204 < 0 := by rw [hx204, hy204]; exact of_decide_eq_false hL
              have hd204 : decide (cf x204 y204 < 0) = false := decide_eq_false hv204
              clear hx204 hy204
              go_wp2_with fail
              go_quiet_grown (first | (go_at_fn g; refine Calls.grown_of (hc204 _ _)))
              have S2 : Aside (SWK enc k w0 blk off d (grow (wr.drewN nq) osq)) := S1.out.grown nq osq
              clear l204a l204b hc204 S1 ea204 pa204 ba204 ra204 ec204 pc204 bc204 rc204
              generalize grow (wr.drewN nq) osq = w2 at S2 ⊢
              clear nq osq
              clear hL
              go_wp2
              go_roundg (j - (h + 1))
              case measure => omega
              case rel => exact ⟨h + 1, j, by go_num, rfl, by omega, by omega, hjb, Nat.le_refl _, S2, (search_two_up HS.out HL0.out (by omega) HL.out HI.out)⟩
            | true =>
              have HL : Hid (lt' d[m]! d[h]! = true) := HG.out ▸ hL
              have ea205 : ((m : Int)).toNat = m := by omega
              have pa205 : (0 : Int) ≤ (m : Int) := by omega
              have ba205 : (m : Int) < (d.size : Int) := by omega
              have ra205 : IntKind.i64.wrap ((m : Int)) = (m : Int) := by rw [IntKind.wrap_i64]; omega
              have ec205 : ((h : Int)).toNat = h := by omega
              have pc205 : (0 : Int) ≤ (h : Int) := by omega
              have bc205 : (h : Int) < (d.size : Int) := by omega
              have rc205 : IntKind.i64.wrap ((h : Int)) = (h : Int) := by rw [IntKind.wrap_i64]; omega
              obtain ⟨x205, hx205⟩ : ∃ x, x = d[m]! := ⟨_, rfl⟩
              obtain ⟨y205, hy205⟩ : ∃ x, x = d[h]! := ⟨_, rfl⟩
              have l205a := S1.out.ld R (by omega) P (m) (by omega)
              have l205b := S1.out.ld R (by omega) P (h) (by omega)
              rw [← hx205] at l205a
              rw [← hy205] at l205b
              have hc205 := S1.out.cmp HC.out (by omega) x205 y205
              have hv205 : cf x205 y205 < 0 := by rw [hx205, hy205]; exact of_decide_eq_true hL
              have hd205 : decide (cf x205 y205 < 0) = true := decide_eq_true hv205
              clear hx205 hy205
              go_wp2_with fail
              go_quiet_grown (first | (go_at_fn g; refine Calls.grown_of (hc205 _ _)))
              have S2 : Aside (SWK enc k w0 blk off d (grow (wr.drewN nq) osq)) := S1.out.grown nq osq
              clear l205a l205b hc205 S1 ea205 pa205 ba205 ra205 ec205 pc205 bc205 rc205
              generalize grow (wr.drewN nq) osq = w2 at S2 ⊢
              clear nq osq
              clear hL
              go_wp2
              go_roundg (h - i)
              case measure => omega
              case rel => exact ⟨i, h, rfl, rfl, hmi, by omega, by omega, Nat.le_refl _, S2, (search_two_down HS.out HL0.out (by omega) HL.out HI.out)⟩
          · obtain rfl : j = i := by omega
            go_wp2
            go_loopg [17] (m - j) (fun kx s17 wr => ∃ (kk : Nat) (dk : Array α), s17 = .int .i64 kk ∧ j ≤ kk ∧ kk ≤ m ∧ kk - j ≤ kx ∧ dk.size = d.size ∧ Aside (SWK enc k w0 blk off dk wr) ∧ Hid (∀ x, dk[x]! = rotf kk m (m + 1) d x) ∧ Hid (PermIn a b d dk))
            case atStart => exact ⟨m, d, rfl, by omega, Nat.le_refl _, Nat.le_refl _, rfl, S1, (fun x => (rotf_none_l m (m + 1) d x).symm), permIn_refl d a b⟩
            case round =>
              clear S1
              obtain ⟨kk, dk, rfl, hak, hkj, hkx2, hds, S1, HRo, HP⟩ := hrel
              by_cases hk2 : j < kk
              · obtain ⟨c, rfl⟩ : ∃ c, kk = c + 1 := ⟨kk - 1, by omega⟩
                have hk2z : (j : Int) < (c : Int) + 1 := by omega
                go_wp2_with fail
                have ea206 : ((c : Int) + 1).toNat = c + 1 := by omega
                have pa206 : (0 : Int) ≤ (c : Int) + 1 := by omega
                have ba206 : (c : Int) + 1 < (d.size : Int) := by omega
                have ra206 : IntKind.i64.wrap ((c : Int) + 1) = (c : Int) + 1 := by rw [IntKind.wrap_i64]; omega
                have ec206 : ((c : Int)).toNat = c := by omega
                have pc206 : (0 : Int) ≤ (c : Int) := by omega
                have bc206 : (c : Int) < (d.size : Int) := by omega
                have rc206 : IntKind.i64.wrap ((c : Int)) = (c : Int) := by rw [IntKind.wrap_i64]; omega
                have S2 : Aside (SWK enc k w0 blk off (swp dk (c + 1) (c)) ((wr.drew.setCells blk (off + (c + 1) * k) (enc dk[c]!)).setCells blk (off + (c) * k) (enc dk[c + 1]!))) := S1.out.swapped R (c + 1) (c) (by omega) (by omega)
                have l206a := S1.out.ld1 R (by omega) P (c + 1) (by omega)
                have l206b := S1.out.ld1 R (by omega) P (c) (by omega)
                have s206a := S1.out.st1 R (by omega) P (c + 1) (by omega) dk[c]!
                have s206b := S1.out.st2 R (by omega) P (c + 1) (c) (by omega) (by omega) dk[c]! dk[c + 1]!
                have n206a : (enc dk[c + 1]!).length = k := R.hk _
                have n206b : (enc dk[c]!).length = k := R.hk _
                generalize enc dk[c + 1]! = cI206 at S2 l206a s206b n206a
                generalize enc dk[c]! = cJ206 at S2 l206b s206a s206b n206b
                clear S1
                go_wp2_with fail
                go_big_region_o
                clear l206a l206b s206a s206b
                generalize (wr.drew.setCells blk (off + (c + 1) * k) cJ206).setCells blk (off + (c) * k) cI206 = w2 at S2 ⊢
                go_wp2
                go_roundg (c - j)
                case measure => omega
                case rel => exact ⟨c, swp dk (c + 1) c, by go_num, by omega, by omega, Nat.le_refl _, by rw [size_swp]; exact hds, S2, (rot_one_left (by omega) hds hkj HRo.out), permIn_trans _ _ _ _ _ HP.out (swp_permIn dk a b (c + 1) c (by omega) (by omega) (by omega) (by omega) (by omega))⟩
              · obtain rfl : kk = j := by omega
                go_wp2
                (try simp only [Exit.inBlock, Exit.then]); refine bodyPost_ret (results_none rfl _ _ _) rfl ?_
                have hro := HRo.out
                have e2 : b = m + 1 := by omega
                exact ⟨rfl, dk, HP.out, merge_one_r HS.out e2 hmi hkj HL0.out HI.out.1 HI.out.2 ⟨hds, by rw [e2]; exact hro⟩, S1.out⟩
      · have hB1 : m + 2 ≤ b := by omega
        clear hB
        have hBz : ¬ ((b : Int) - (m : Int) = 1) := by omega
        have hBzb : ((b : Int) - (m : Int) == 1) = false := by simpa using hBz
        obtain ⟨mid, m1, m2⟩ : ∃ mid : Nat, 2 * mid ≤ a + b ∧ a + b < 2 * mid + 2 := ⟨(a + b) / 2, by omega, by omega⟩
        have hmz : ((a : Int) + (b : Int)) / 2 = (mid : Int) := by omega
        by_cases hgt : mid < m
        · obtain ⟨s0, r0, g1, g2, g3, g4⟩ : ∃ s0 r0 : Nat, s0 ≤ mid + m - b ∧ mid + m - b ≤ s0 ∧ r0 ≤ mid ∧ mid ≤ r0 := ⟨mid + m - b, mid, Nat.le_refl _, Nat.le_refl _, Nat.le_refl _, Nat.le_refl _⟩
          have hgz : (mid : Int) < (m : Int) := by omega
          have hs0 : ((mid : Int) + (m : Int)) - (b : Int) = (s0 : Int) := by omega
          go_wp2
          go_loopg [20, 21] (b - a) (fun kx s20 s21 wr => ∃ (i j : Nat), s20 = .int .i64 i ∧ s21 = .int .i64 j ∧ s0 ≤ i ∧ i ≤ j ∧ j ≤ r0 ∧ j - i ≤ kx ∧ Aside (SWK enc k w0 blk off d wr) ∧ Hid ((s0 < i → lt' d[mid + m - 1 - (i - 1)]! d[i - 1]! = false) ∧ (j < r0 → lt' d[mid + m - 1 - j]! d[j]! = true)))
          case atStart => exact ⟨s0, r0, by go_num, by go_num, Nat.le_refl _, by omega, Nat.le_refl _, by omega, S0, (⟨fun h => absurd h (by omega), fun h => absurd h (by omega)⟩ : (s0 < s0 → lt' d[mid + m - 1 - (s0 - 1)]! d[s0 - 1]! = false) ∧ (r0 < r0 → lt' d[mid + m - 1 - r0]! d[r0]! = true))⟩
          case round =>
            clear S0
            obtain ⟨i, j, rfl, rfl, hmi, hij, hjb, hkx, S1, HI⟩ := hrel
            by_cases hlt : i < j
            · have hltz : (i : Int) < (j : Int) := by omega
              obtain ⟨h, hh1, hh2⟩ : ∃ h : Nat, 2 * h ≤ i + j ∧ i + j < 2 * h + 2 := ⟨(i + j) / 2, by omega, by omega⟩
              have hhz : ((i : Int) + (j : Int)) / 2 = (h : Int) := by omega
              obtain ⟨q, hq1, hq2⟩ : ∃ q : Nat, q + h + 1 ≤ mid + m ∧ mid + m ≤ q + h + 1 := ⟨mid + m - 1 - h, by omega, by omega⟩
              have hqz : (mid : Int) + (m : Int) - 1 - (h : Int) = (q : Int) := by omega
              have HQ : Hid (mid + m - 1 - h = q) := by show _ = _; omega
              have hag := HA.out h q (by omega) (by omega) (by omega) (by omega)
              have HG := Lib.hid hag
              clear hag
              cases hL : ltOf cf d[q]! d[h]! with
              | false =>
                have HL : Hid (lt' d[q]! d[h]! = false) := HG.out ▸ hL
                have ea207 : ((q : Int)).toNat = q := by omega
                have pa207 : (0 : Int) ≤ (q : Int) := by omega
                have ba207 : (q : Int) < (d.size : Int) := by omega
                have ra207 : IntKind.i64.wrap ((q : Int)) = (q : Int) := by rw [IntKind.wrap_i64]; omega
                have ec207 : ((h : Int)).toNat = h := by omega
                have pc207 : (0 : Int) ≤ (h : Int) := by omega
                have bc207 : (h : Int) < (d.size : Int) := by omega
                have rc207 : IntKind.i64.wrap ((h : Int)) = (h : Int) := by rw [IntKind.wrap_i64]; omega
                obtain ⟨x207, hx207⟩ : ∃ x, x = d[q]! := ⟨_, rfl⟩
                obtain ⟨y207, hy207⟩ : ∃ x, x = d[h]! := ⟨_, rfl⟩
                have l207a := S1.out.ld R (by omega) P (q) (by omega)
                have l207b := S1.out.ld R (by omega) P (h) (by omega)
                rw [← hx207] at l207a
                rw [← hy207] at l207b
                have hc207 := S1.out.cmp HC.out (by omega) x207 y207
                have hv207 : ¬ cf x207 y207 < 0 := by rw [hx207, hy207]; exact of_decide_eq_false hL
                have hd207 : decide (cf x207 y207 < 0) = false := decide_eq_false hv207
                clear hx207 hy207
                go_wp2_with fail
                go_quiet_grown (first | (go_at_fn g; refine Calls.grown_of (hc207 _ _)))
                have S2 : Aside (SWK enc k w0 blk off d (grow (wr.drewN nq) osq)) := S1.out.grown nq osq
                clear l207a l207b hc207 S1 ea207 pa207 ba207 ra207 ec207 pc207 bc207 rc207
                generalize grow (wr.drewN nq) osq = w2 at S2 ⊢
                clear nq osq
                clear hL
                go_wp2
                go_roundg (j - (h + 1))
                case measure => omega
                case rel => exact ⟨h + 1, j, by go_num, rfl, by omega, by omega, hjb, Nat.le_refl _, S2, (⟨fun _ => by rw [show h + 1 - 1 = h from rfl, HQ.out]; exact HL.out, HI.out.2⟩ : (s0 < h + 1 → lt' d[mid + m - 1 - (h + 1 - 1)]! d[h + 1 - 1]! = false) ∧ (j < r0 → lt' d[mid + m - 1 - j]! d[j]! = true))⟩
              | true =>
                have HL : Hid (lt' d[q]! d[h]! = true) := HG.out ▸ hL
                have ea208 : ((q : Int)).toNat = q := by omega
                have pa208 : (0 : Int) ≤ (q : Int) := by omega
                have ba208 : (q : Int) < (d.size : Int) := by omega
                have ra208 : IntKind.i64.wrap ((q : Int)) = (q : Int) := by rw [IntKind.wrap_i64]; omega
                have ec208 : ((h : Int)).toNat = h := by omega
                have pc208 : (0 : Int) ≤ (h : Int) := by omega
                have bc208 : (h : Int) < (d.size : Int) := by omega
                have rc208 : IntKind.i64.wrap ((h : Int)) = (h : Int) := by rw [IntKind.wrap_i64]; omega
                obtain ⟨x208, hx208⟩ : ∃ x, x = d[q]! := ⟨_, rfl⟩
                obtain ⟨y208, hy208⟩ : ∃ x, x = d[h]! := ⟨_, rfl⟩
                have l208a := S1.out.ld R (by omega) P (q) (by omega)
                have l208b := S1.out.ld R (by omega) P (h) (by omega)
                rw [← hx208] at l208a
                rw [← hy208] at l208b
                have hc208 := S1.out.cmp HC.out (by omega) x208 y208
                have hv208 : cf x208 y208 < 0 := by rw [hx208, hy208]; exact of_decide_eq_true hL
                have hd208 : decide (cf x208 y208 < 0) = true := decide_eq_true hv208
                clear hx208 hy208
                go_wp2_with fail
                go_quiet_grown (first | (go_at_fn g; refine Calls.grown_of (hc208 _ _)))
                have S2 : Aside (SWK enc k w0 blk off d (grow (wr.drewN nq) osq)) := S1.out.grown nq osq
                clear l208a l208b hc208 S1 ea208 pa208 ba208 ra208 ec208 pc208 bc208 rc208
                generalize grow (wr.drewN nq) osq = w2 at S2 ⊢
                clear nq osq
                clear hL
                go_wp2
                go_roundg (h - i)
                case measure => omega
                case rel => exact ⟨i, h, rfl, rfl, hmi, by omega, by omega, Nat.le_refl _, S2, (⟨HI.out.1, fun _ => by rw [HQ.out]; exact HL.out⟩ : (s0 < i → lt' d[mid + m - 1 - (i - 1)]! d[i - 1]! = false) ∧ (h < r0 → lt' d[mid + m - 1 - h]! d[h]! = true))⟩
            · obtain rfl : j = i := by omega
              obtain ⟨st, rfl⟩ : ∃ st, st = j := ⟨j, rfl⟩
              obtain ⟨en, n1, n2⟩ : ∃ en : Nat, en + st ≤ mid + m ∧ mid + m ≤ en + st := ⟨mid + m - st, by omega, by omega⟩
              have hnz : (mid : Int) + (m : Int) - (st : Int) = (en : Int) := by omega
              have HX : Hid (Cross lt' a st m en b d) := cross_end HS.out (by omega) (by omega) (by omega) (by omega) HL0.out HR.out (by omega) HI.out (fun _ _ => by omega) (fun _ _ => by omega)
              clear HI
              have q0 : (st : Int) < (m : Int) := by omega
              by_cases hq0 : m < en
              · have q1 : (m : Int) < (en : Int) := by omega
                have q4 : (mid : Int) < (en : Int) := by omega
                have q3 : (st : Int) < (mid : Int) := by omega
                by_cases hq1 : a < st
                · have q2 : (a : Int) < (st : Int) := by omega
                  by_cases hq2 : en < b
                  · have q5 : (en : Int) < (b : Int) := by omega
                    have hcall0 := rotate L k aE zE enc g cb blk off cap st m en d0 d w0 wr R hs S1.out (by omega) (by omega) (by omega) hsz
                    clear S1
                    go_wp2_with (first
                      | (go_at_fn 97; (with_reducible refine hcall0.mono ?_); rintro e w3 ⟨rfl, d3, hr3, hp3, S3'⟩; have S3 : Aside (SWK enc k w0 blk off d3 w3) := S3'; have hd3 : d3.size = d.size := hr3.1; have PT := Lib.hid (after_rot (lt := ltOf cf) HS.out (by omega) (by omega) (by omega) (by omega) (by omega) hr3 (permIn_mono _ _ _ _ _ _ (by omega) (by omega) (by omega) hp3) HL0.out HR.out HA.out HX.out : Parts (ltOf cf) lt' a st mid en b d d3); clear hr3 hp3 S3'; have hcall1 := IH.out a st mid d3 w3 (by omega) (by omega) (by omega) (by omega) (by omega) S3.out PT.out.l1 PT.out.l2 PT.out.lA; clear S3)
                      | (go_at_fn 80; (with_reducible refine hcall1.mono ?_); rintro e w4 ⟨rfl, d4, hp4, hs4, S4'⟩; have S4 : Aside (SWK enc k w0 blk off d4 w4) := S4'; have hd4 : d4.size = d.size := hp4.1.trans hd3; have MD := Lib.hid (PT.out.first hp4 hs4 (by omega) (by omega) (by omega)); clear hp4 hs4 S4'; have hcall2 := IH.out mid en b d4 w4 (by omega) (by omega) (by omega) (by omega) (by omega) S4.out MD.out.r1 MD.out.r2 MD.out.rA; clear S4)
                      | (go_at_fn 80; (with_reducible refine hcall2.mono ?_); rintro e w5 ⟨rfl, d5, hp5, hs5, S5⟩))
                    go_end0
                    have f := MD.out.fin hp5 hs5 (by omega) (by omega)
                    exact ⟨rfl, d5, f.1, f.2, S5⟩
                  · have q5 : ¬ ((en : Int) < (b : Int)) := by omega
                    have hcall0 := rotate L k aE zE enc g cb blk off cap st m en d0 d w0 wr R hs S1.out (by omega) (by omega) (by omega) hsz
                    clear S1
                    go_wp2_with (first
                      | (go_at_fn 97; (with_reducible refine hcall0.mono ?_); rintro e w3 ⟨rfl, d3, hr3, hp3, S3'⟩; have S3 : Aside (SWK enc k w0 blk off d3 w3) := S3'; have hd3 : d3.size = d.size := hr3.1; have PT := Lib.hid (after_rot (lt := ltOf cf) HS.out (by omega) (by omega) (by omega) (by omega) (by omega) hr3 (permIn_mono _ _ _ _ _ _ (by omega) (by omega) (by omega) hp3) HL0.out HR.out HA.out HX.out : Parts (ltOf cf) lt' a st mid en b d d3); clear hr3 hp3 S3'; have hcall1 := IH.out a st mid d3 w3 (by omega) (by omega) (by omega) (by omega) (by omega) S3.out PT.out.l1 PT.out.l2 PT.out.lA; clear S3)
                      | (go_at_fn 80; (with_reducible refine hcall1.mono ?_); rintro e w4 ⟨rfl, d4, hp4, hs4, S4'⟩; have S4 : Aside (SWK enc k w0 blk off d4 w4) := S4'; have hd4 : d4.size = d.size := hp4.1.trans hd3; have MD := Lib.hid (PT.out.first hp4 hs4 (by omega) (by omega) (by omega)); clear hp4 hs4 S4'))
                    go_end0
                    have f := MD.out.idle (by omega) (by omega)
                    exact ⟨rfl, d4, f.1, f.2, S4.out⟩
                · have q2 : ¬ ((a : Int) < (st : Int)) := by omega
                  by_cases hq2 : en < b
                  · have q5 : (en : Int) < (b : Int) := by omega
                    have hcall0 := rotate L k aE zE enc g cb blk off cap st m en d0 d w0 wr R hs S1.out (by omega) (by omega) (by omega) hsz
                    clear S1
                    go_wp2_with (first
                      | (go_at_fn 97; (with_reducible refine hcall0.mono ?_); rintro e w3 ⟨rfl, d3, hr3, hp3, S3'⟩; have S3 : Aside (SWK enc k w0 blk off d3 w3) := S3'; have hd3 : d3.size = d.size := hr3.1; have PT := Lib.hid (after_rot (lt := ltOf cf) HS.out (by omega) (by omega) (by omega) (by omega) (by omega) hr3 (permIn_mono _ _ _ _ _ _ (by omega) (by omega) (by omega) hp3) HL0.out HR.out HA.out HX.out : Parts (ltOf cf) lt' a st mid en b d d3); clear hr3 hp3 S3'; have MD := Lib.hid (PT.out.idle (by omega)); have hcall2 := IH.out mid en b d3 w3 (by omega) (by omega) (by omega) (by omega) (by omega) S3.out MD.out.r1 MD.out.r2 MD.out.rA; clear S3)
                      | (go_at_fn 80; (with_reducible refine hcall2.mono ?_); rintro e w5 ⟨rfl, d5, hp5, hs5, S5⟩))
                    go_end0
                    have f := MD.out.fin hp5 hs5 (by omega) (by omega)
                    exact ⟨rfl, d5, f.1, f.2, S5⟩
                  · have q5 : ¬ ((en : Int) < (b : Int)) := by omega
                    have hcall0 := rotate L k aE zE enc g cb blk off cap st m en d0 d w0 wr R hs S1.out (by omega) (by omega) (by omega) hsz
                    clear S1
                    go_wp2_with (first
                      | (go_at_fn 97; (with_reducible refine hcall0.mono ?_); rintro e w3 ⟨rfl, d3, hr3, hp3, S3'⟩; have S3 : Aside (SWK enc k w0 blk off d3 w3) := S3'; have hd3 : d3.size = d.size := hr3.1; have PT := Lib.hid (after_rot (lt := ltOf cf) HS.out (by omega) (by omega) (by omega) (by omega) (by omega) hr3 (permIn_mono _ _ _ _ _ _ (by omega) (by omega) (by omega) hp3) HL0.out HR.out HA.out HX.out : Parts (ltOf cf) lt' a st mid en b d d3); clear hr3 hp3 S3'; have MD := Lib.hid (PT.out.idle (by omega))))
                    go_end0
                    have f := MD.out.idle (by omega) (by omega)
                    exact ⟨rfl, d3, f.1, f.2, S3.out⟩
              · have q1 : ¬ ((m : Int) < (en : Int)) := by omega
                have q2 : (a : Int) < (st : Int) := by omega
                have q3 : ¬ ((st : Int) < (mid : Int)) := by omega
                have q4 : (mid : Int) < (en : Int) := by omega
                have q5 : (en : Int) < (b : Int) := by omega
                have PT := Lib.hid (after_rot (lt := ltOf cf) HS.out (by omega) (by omega) (by omega) (by omega) (by omega) (rot_idle (by omega)) (permIn_refl d a b) HL0.out HR.out HA.out HX.out : Parts (ltOf cf) lt' a st mid en b d d)
                have MD := Lib.hid (PT.out.idle (by omega))
                have hcall2 := IH.out mid en b d wr (by omega) (by omega) (by omega) (by omega) (by omega) S1.out MD.out.r1 MD.out.r2 MD.out.rA
                clear S1
                go_wp2_with (first
                  | (go_at_fn 80; (with_reducible refine hcall2.mono ?_); rintro e w5 ⟨rfl, d5, hp5, hs5, S5⟩))
                go_end0
                have f := MD.out.fin hp5 hs5 (by omega) (by omega)
                exact ⟨rfl, d5, f.1, f.2, S5⟩
        · obtain ⟨s0, r0, g1, g2, g3, g4⟩ : ∃ s0 r0 : Nat, s0 ≤ a ∧ a ≤ s0 ∧ r0 ≤ m ∧ m ≤ r0 := ⟨a, m, Nat.le_refl _, Nat.le_refl _, Nat.le_refl _, Nat.le_refl _⟩
          have hgz : ¬ ((mid : Int) < (m : Int)) := by omega
          go_wp2
          go_loopg [20, 21] (b - a) (fun kx s20 s21 wr => ∃ (i j : Nat), s20 = .int .i64 i ∧ s21 = .int .i64 j ∧ s0 ≤ i ∧ i ≤ j ∧ j ≤ r0 ∧ j - i ≤ kx ∧ Aside (SWK enc k w0 blk off d wr) ∧ Hid ((s0 < i → lt' d[mid + m - 1 - (i - 1)]! d[i - 1]! = false) ∧ (j < r0 → lt' d[mid + m - 1 - j]! d[j]! = true)))
          case atStart => exact ⟨s0, r0, by go_num, by go_num, Nat.le_refl _, by omega, Nat.le_refl _, by omega, S0, (⟨fun h => absurd h (by omega), fun h => absurd h (by omega)⟩ : (s0 < s0 → lt' d[mid + m - 1 - (s0 - 1)]! d[s0 - 1]! = false) ∧ (r0 < r0 → lt' d[mid + m - 1 - r0]! d[r0]! = true))⟩
          case round =>
            clear S0
            obtain ⟨i, j, rfl, rfl, hmi, hij, hjb, hkx, S1, HI⟩ := hrel
            by_cases hlt : i < j
            · have hltz : (i : Int) < (j : Int) := by omega
              obtain ⟨h, hh1, hh2⟩ : ∃ h : Nat, 2 * h ≤ i + j ∧ i + j < 2 * h + 2 := ⟨(i + j) / 2, by omega, by omega⟩
              have hhz : ((i : Int) + (j : Int)) / 2 = (h : Int) := by omega
              obtain ⟨q, hq1, hq2⟩ : ∃ q : Nat, q + h + 1 ≤ mid + m ∧ mid + m ≤ q + h + 1 := ⟨mid + m - 1 - h, by omega, by omega⟩
              have hqz : (mid : Int) + (m : Int) - 1 - (h : Int) = (q : Int) := by omega
              have HQ : Hid (mid + m - 1 - h = q) := by show _ = _; omega
              have hag := HA.out h q (by omega) (by omega) (by omega) (by omega)
              have HG := Lib.hid hag
              clear hag
              cases hL : ltOf cf d[q]! d[h]! with
              | false =>
                have HL : Hid (lt' d[q]! d[h]! = false) := HG.out ▸ hL
                have ea209 : ((q : Int)).toNat = q := by omega
                have pa209 : (0 : Int) ≤ (q : Int) := by omega
                have ba209 : (q : Int) < (d.size : Int) := by omega
                have ra209 : IntKind.i64.wrap ((q : Int)) = (q : Int) := by rw [IntKind.wrap_i64]; omega
                have ec209 : ((h : Int)).toNat = h := by omega
                have pc209 : (0 : Int) ≤ (h : Int) := by omega
                have bc209 : (h : Int) < (d.size : Int) := by omega
                have rc209 : IntKind.i64.wrap ((h : Int)) = (h : Int) := by rw [IntKind.wrap_i64]; omega
                obtain ⟨x209, hx209⟩ : ∃ x, x = d[q]! := ⟨_, rfl⟩
                obtain ⟨y209, hy209⟩ : ∃ x, x = d[h]! := ⟨_, rfl⟩
                have l209a := S1.out.ld R (by omega) P (q) (by omega)
                have l209b := S1.out.ld R (by omega) P (h) (by omega)
                rw [← hx209] at l209a
                rw [← hy209] at l209b
                have hc209 := S1.out.cmp HC.out (by omega) x209 y209
                have hv209 : ¬ cf x209 y209 < 0 := by rw [hx209, hy209]; exact of_decide_eq_false hL
                have hd209 : decide (cf x209 y209 < 0) = false := decide_eq_false hv209
                clear hx209 hy209
                go_wp2_with fail
                go_quiet_grown (first | (go_at_fn g; refine Calls.grown_of (hc209 _ _)))
                have S2 : Aside (SWK enc k w0 blk off d (grow (wr.drewN nq) osq)) := S1.out.grown nq osq
                clear l209a l209b hc209 S1 ea209 pa209 ba209 ra209 ec209 pc209 bc209 rc209
                generalize grow (wr.drewN nq) osq = w2 at S2 ⊢
                clear nq osq
                clear hL
                go_wp2
                go_roundg (j - (h + 1))
                case measure => omega
                case rel => exact ⟨h + 1, j, by go_num, rfl, by omega, by omega, hjb, Nat.le_refl _, S2, (⟨fun _ => by rw [show h + 1 - 1 = h from rfl, HQ.out]; exact HL.out, HI.out.2⟩ : (s0 < h + 1 → lt' d[mid + m - 1 - (h + 1 - 1)]! d[h + 1 - 1]! = false) ∧ (j < r0 → lt' d[mid + m - 1 - j]! d[j]! = true))⟩
              | true =>
                have HL : Hid (lt' d[q]! d[h]! = true) := HG.out ▸ hL
                have ea210 : ((q : Int)).toNat = q := by omega
                have pa210 : (0 : Int) ≤ (q : Int) := by omega
                have ba210 : (q : Int) < (d.size : Int) := by omega
                have ra210 : IntKind.i64.wrap ((q : Int)) = (q : Int) := by rw [IntKind.wrap_i64]; omega
                have ec210 : ((h : Int)).toNat = h := by omega
                have pc210 : (0 : Int) ≤ (h : Int) := by omega
                have bc210 : (h : Int) < (d.size : Int) := by omega
                have rc210 : IntKind.i64.wrap ((h : Int)) = (h : Int) := by rw [IntKind.wrap_i64]; omega
                obtain ⟨x210, hx210⟩ : ∃ x, x = d[q]! := ⟨_, rfl⟩
                obtain ⟨y210, hy210⟩ : ∃ x, x = d[h]! := ⟨_, rfl⟩
                have l210a := S1.out.ld R (by omega) P (q) (by omega)
                have l210b := S1.out.ld R (by omega) P (h) (by omega)
                rw [← hx210] at l210a
                rw [← hy210] at l210b
                have hc210 := S1.out.cmp HC.out (by omega) x210 y210
                have hv210 : cf x210 y210 < 0 := by rw [hx210, hy210]; exact of_decide_eq_true hL
                have hd210 : decide (cf x210 y210 < 0) = true := decide_eq_true hv210
                clear hx210 hy210
                go_wp2_with fail
                go_quiet_grown (first | (go_at_fn g; refine Calls.grown_of (hc210 _ _)))
                have S2 : Aside (SWK enc k w0 blk off d (grow (wr.drewN nq) osq)) := S1.out.grown nq osq
                clear l210a l210b hc210 S1 ea210 pa210 ba210 ra210 ec210 pc210 bc210 rc210
                generalize grow (wr.drewN nq) osq = w2 at S2 ⊢
                clear nq osq
                clear hL
                go_wp2
                go_roundg (h - i)
                case measure => omega
                case rel => exact ⟨i, h, rfl, rfl, hmi, by omega, by omega, Nat.le_refl _, S2, (⟨HI.out.1, fun _ => by rw [HQ.out]; exact HL.out⟩ : (s0 < i → lt' d[mid + m - 1 - (i - 1)]! d[i - 1]! = false) ∧ (h < r0 → lt' d[mid + m - 1 - h]! d[h]! = true))⟩
            · obtain rfl : j = i := by omega
              obtain ⟨st, rfl⟩ : ∃ st, st = j := ⟨j, rfl⟩
              obtain ⟨en, n1, n2⟩ : ∃ en : Nat, en + st ≤ mid + m ∧ mid + m ≤ en + st := ⟨mid + m - st, by omega, by omega⟩
              have hnz : (mid : Int) + (m : Int) - (st : Int) = (en : Int) := by omega
              have HX : Hid (Cross lt' a st m en b d) := cross_end HS.out (by omega) (by omega) (by omega) (by omega) HL0.out HR.out (by omega) HI.out (fun _ _ => by omega) (fun _ _ => by omega)
              clear HI
              by_cases hq0 : st < m
              · have q0 : (st : Int) < (m : Int) := by omega
                have q1 : (m : Int) < (en : Int) := by omega
                have q4 : (mid : Int) < (en : Int) := by omega
                have q3 : (st : Int) < (mid : Int) := by omega
                by_cases hq1 : a < st
                · have q2 : (a : Int) < (st : Int) := by omega
                  by_cases hq2 : en < b
                  · have q5 : (en : Int) < (b : Int) := by omega
                    have hcall0 := rotate L k aE zE enc g cb blk off cap st m en d0 d w0 wr R hs S1.out (by omega) (by omega) (by omega) hsz
                    clear S1
                    go_wp2_with (first
                      | (go_at_fn 97; (with_reducible refine hcall0.mono ?_); rintro e w3 ⟨rfl, d3, hr3, hp3, S3'⟩; have S3 : Aside (SWK enc k w0 blk off d3 w3) := S3'; have hd3 : d3.size = d.size := hr3.1; have PT := Lib.hid (after_rot (lt := ltOf cf) HS.out (by omega) (by omega) (by omega) (by omega) (by omega) hr3 (permIn_mono _ _ _ _ _ _ (by omega) (by omega) (by omega) hp3) HL0.out HR.out HA.out HX.out : Parts (ltOf cf) lt' a st mid en b d d3); clear hr3 hp3 S3'; have hcall1 := IH.out a st mid d3 w3 (by omega) (by omega) (by omega) (by omega) (by omega) S3.out PT.out.l1 PT.out.l2 PT.out.lA; clear S3)
                      | (go_at_fn 80; (with_reducible refine hcall1.mono ?_); rintro e w4 ⟨rfl, d4, hp4, hs4, S4'⟩; have S4 : Aside (SWK enc k w0 blk off d4 w4) := S4'; have hd4 : d4.size = d.size := hp4.1.trans hd3; have MD := Lib.hid (PT.out.first hp4 hs4 (by omega) (by omega) (by omega)); clear hp4 hs4 S4'; have hcall2 := IH.out mid en b d4 w4 (by omega) (by omega) (by omega) (by omega) (by omega) S4.out MD.out.r1 MD.out.r2 MD.out.rA; clear S4)
                      | (go_at_fn 80; (with_reducible refine hcall2.mono ?_); rintro e w5 ⟨rfl, d5, hp5, hs5, S5⟩))
                    go_end0
                    have f := MD.out.fin hp5 hs5 (by omega) (by omega)
                    exact ⟨rfl, d5, f.1, f.2, S5⟩
                  · have q5 : ¬ ((en : Int) < (b : Int)) := by omega
                    have hcall0 := rotate L k aE zE enc g cb blk off cap st m en d0 d w0 wr R hs S1.out (by omega) (by omega) (by omega) hsz
                    clear S1
                    go_wp2_with (first
                      | (go_at_fn 97; (with_reducible refine hcall0.mono ?_); rintro e w3 ⟨rfl, d3, hr3, hp3, S3'⟩; have S3 : Aside (SWK enc k w0 blk off d3 w3) := S3'; have hd3 : d3.size = d.size := hr3.1; have PT := Lib.hid (after_rot (lt := ltOf cf) HS.out (by omega) (by omega) (by omega) (by omega) (by omega) hr3 (permIn_mono _ _ _ _ _ _ (by omega) (by omega) (by omega) hp3) HL0.out HR.out HA.out HX.out : Parts (ltOf cf) lt' a st mid en b d d3); clear hr3 hp3 S3'; have hcall1 := IH.out a st mid d3 w3 (by omega) (by omega) (by omega) (by omega) (by omega) S3.out PT.out.l1 PT.out.l2 PT.out.lA; clear S3)
                      | (go_at_fn 80; (with_reducible refine hcall1.mono ?_); rintro e w4 ⟨rfl, d4, hp4, hs4, S4'⟩; have S4 : Aside (SWK enc k w0 blk off d4 w4) := S4'; have hd4 : d4.size = d.size := hp4.1.trans hd3; have MD := Lib.hid (PT.out.first hp4 hs4 (by omega) (by omega) (by omega)); clear hp4 hs4 S4'))
                    go_end0
                    have f := MD.out.idle (by omega) (by omega)
                    exact ⟨rfl, d4, f.1, f.2, S4.out⟩
                · have q2 : ¬ ((a : Int) < (st : Int)) := by omega
                  by_cases hq2 : en < b
                  · have q5 : (en : Int) < (b : Int) := by omega
                    have hcall0 := rotate L k aE zE enc g cb blk off cap st m en d0 d w0 wr R hs S1.out (by omega) (by omega) (by omega) hsz
                    clear S1
                    go_wp2_with (first
                      | (go_at_fn 97; (with_reducible refine hcall0.mono ?_); rintro e w3 ⟨rfl, d3, hr3, hp3, S3'⟩; have S3 : Aside (SWK enc k w0 blk off d3 w3) := S3'; have hd3 : d3.size = d.size := hr3.1; have PT := Lib.hid (after_rot (lt := ltOf cf) HS.out (by omega) (by omega) (by omega) (by omega) (by omega) hr3 (permIn_mono _ _ _ _ _ _ (by omega) (by omega) (by omega) hp3) HL0.out HR.out HA.out HX.out : Parts (ltOf cf) lt' a st mid en b d d3); clear hr3 hp3 S3'; have MD := Lib.hid (PT.out.idle (by omega)); have hcall2 := IH.out mid en b d3 w3 (by omega) (by omega) (by omega) (by omega) (by omega) S3.out MD.out.r1 MD.out.r2 MD.out.rA; clear S3)
                      | (go_at_fn 80; (with_reducible refine hcall2.mono ?_); rintro e w5 ⟨rfl, d5, hp5, hs5, S5⟩))
                    go_end0
                    have f := MD.out.fin hp5 hs5 (by omega) (by omega)
                    exact ⟨rfl, d5, f.1, f.2, S5⟩
                  · have q5 : ¬ ((en : Int) < (b : Int)) := by omega
                    have hcall0 := rotate L k aE zE enc g cb blk off cap st m en d0 d w0 wr R hs S1.out (by omega) (by omega) (by omega) hsz
                    clear S1
                    go_wp2_with (first
                      | (go_at_fn 97; (with_reducible refine hcall0.mono ?_); rintro e w3 ⟨rfl, d3, hr3, hp3, S3'⟩; have S3 : Aside (SWK enc k w0 blk off d3 w3) := S3'; have hd3 : d3.size = d.size := hr3.1; have PT := Lib.hid (after_rot (lt := ltOf cf) HS.out (by omega) (by omega) (by omega) (by omega) (by omega) hr3 (permIn_mono _ _ _ _ _ _ (by omega) (by omega) (by omega) hp3) HL0.out HR.out HA.out HX.out : Parts (ltOf cf) lt' a st mid en b d d3); clear hr3 hp3 S3'; have MD := Lib.hid (PT.out.idle (by omega))))
                    go_end0
                    have f := MD.out.idle (by omega) (by omega)
                    exact ⟨rfl, d3, f.1, f.2, S3.out⟩
              · have q0 : ¬ ((st : Int) < (m : Int)) := by omega
                have q2 : (a : Int) < (st : Int) := by omega
                have q4 : ¬ ((mid : Int) < (en : Int)) := by omega
                by_cases hq1 : st < mid
                · have q3 : (st : Int) < (mid : Int) := by omega
                  have PT := Lib.hid (after_rot (lt := ltOf cf) HS.out (by omega) (by omega) (by omega) (by omega) (by omega) (rot_idle (by omega)) (permIn_refl d a b) HL0.out HR.out HA.out HX.out : Parts (ltOf cf) lt' a st mid en b d d)
                  have hcall1 := IH.out a st mid d wr (by omega) (by omega) (by omega) (by omega) (by omega) S1.out PT.out.l1 PT.out.l2 PT.out.lA
                  clear S1
                  go_wp2_with (first
                    | (go_at_fn 80; (with_reducible refine hcall1.mono ?_); rintro e w4 ⟨rfl, d4, hp4, hs4, S4'⟩; have S4 : Aside (SWK enc k w0 blk off d4 w4) := S4'; have hd4 : d4.size = d.size := hp4.1; have MD := Lib.hid (PT.out.first hp4 hs4 (by omega) (by omega) (by omega)); clear hp4 hs4 S4'))
                  go_end0
                  have f := MD.out.idle (by omega) (by omega)
                  exact ⟨rfl, d4, f.1, f.2, S4.out⟩
                · have q3 : ¬ ((st : Int) < (mid : Int)) := by omega
                  have PT := Lib.hid (after_rot (lt := ltOf cf) HS.out (by omega) (by omega) (by omega) (by omega) (by omega) (rot_idle (by omega)) (permIn_refl d a b) HL0.out HR.out HA.out HX.out : Parts (ltOf cf) lt' a st mid en b d d)
                  have MD := Lib.hid (PT.out.idle (by omega))
                  go_wp2
                  go_end0
                  have f := MD.out.idle (by omega) (by omega)
                  exact ⟨rfl, d, f.1, f.2, S1.out⟩

#print axioms symMerge
end Go.Proofs.Ytdkhaohjfclceaa.St

