/- slices.SortStableFunc over a row of asks that the caller owns. -/
import Derived.Test.YtdkhaohjfclceaaSt3
import Derived.Test.YtdkhaohjfclceaaRp6
set_option linter.unusedVariables false
set_option linter.unusedSimpArgs false
namespace Go.Proofs.Ytdkhaohjfclceaa.Rp
open Go.RowKit Go.Sort Go.Proofs.Ytdkhaohjfclceaa.Mp Go.Proofs.Ytdkhaohjfclceaa.St Go.Proofs.Ytdkhaohjfclceaa.PRp Go.Proofs.YtdkhaohjfclceaaW.PrintWords

section
variable {α : Type} [Inhabited α]
omit [Inhabited α] in
theorem flatMap_len (enc : α → List Value) (k : Nat) (hk : ∀ x, (enc x).length = k) : ∀ l : List α, (l.flatMap enc).length = l.length * k
  | [] => by simp
  | x :: l => by
    rw [List.flatMap_cons, List.length_append, hk, flatMap_len enc k hk l, List.length_cons, Nat.add_mul, Nat.one_mul, Nat.add_comm]
theorem flatMap_get (enc : α → List Value) (k : Nat) (hk : ∀ x, (enc x).length = k) (hk0 : 0 < k) : ∀ (l : List α) (t : Nat), t < l.length * k → (l.flatMap enc)[t]? = some (enc l.toArray[t / k]!)[t % k]!
  | [], t, h => by simp at h
  | x :: l, t, h => by
    rw [List.flatMap_cons]
    by_cases ht : t < k
    · rw [List.getElem?_append_left (by rw [hk]; exact ht), Nat.div_eq_of_lt ht, Nat.mod_eq_of_lt ht]
      simp [List.getElem?_eq_getElem (show t < (enc x).length by rw [hk]; exact ht)]
    · have ih := flatMap_get enc k hk hk0 l (t - k) (by rw [List.length_cons, Nat.add_mul, Nat.one_mul] at h; omega)
      rw [List.getElem?_append_right (by rw [hk]; omega), hk, ih]
      have e1 : t / k = (t - k) / k + 1 := Nat.div_eq_sub_div hk0 (by omega)
      have e2 : t % k = (t - k) % k := Nat.mod_eq_sub_mod (by omega)
      rw [e1, e2]
      simp
theorem holdsK_of_row {enc : α → List Value} {k : Nat} (hk : ∀ x, (enc x).length = k) (hk0 : 0 < k) {w : World} {g : Nat} {cur : Array Value} {e : TypeId} (hg : w.heap[g]? = some (.cells cur e (0, 0))) {ss : List α} (htake : cur.toList.take (ss.length * k) = ss.flatMap enc) : HoldsK enc k w g 0 ss.toArray := by
  intro j hj
  rw [size_flatK, List.size_toArray] at hj
  rw [get_flatK _ _ _ _ (by simpa using hj)]
  refine ⟨?_, ?_⟩
  · simp only [World.cell?, hg, Nat.zero_add]
    show cur[j]? = _
    show _ = some (enc ss.toArray[j / k]!)[j % k]!
    rw [← flatMap_get enc k hk hk0 ss j hj, ← htake, List.getElem?_take, if_pos hj]
    simp
  · simp [World.frozen?, hg]
theorem row_of_SWK {enc : α → List Value} {k : Nat} (hk : ∀ x, (enc x).length = k) (hk0 : 0 < k) {w W : World} {base g cap : Nat} {cur : Array Value} {e : TypeId} (hbg : base ≤ g) (hb : base ≤ w.heap.size) (hg : w.heap[g]? = some (.cells cur e (0, 0))) {n : Nat} (hcap : n ≤ cap) (hmax : cap ≤ maxLen) (hsz : cur.size = cap * k) {d0 d : Array α} (hH : HoldsK enc k w g 0 d0) (h0 : d0.size = n) (hd : d.size = n) (S : SWK enc k w g 0 d W) :
    W.ownsRow base e k (.slice (some ⟨g, 0, none⟩) n cap) n (d.toList.flatMap enc) ∧ Below base w W := by
  have hglt : g < w.heap.size := (Array.getElem?_eq_some_iff.1 hg).1
  have hH' := S.holds hglt hH (by omega)
  obtain ⟨q, os, rfl⟩ := S
  refine ⟨⟨by rw [flatMap_len enc k hk]; simp [hd], .inr ?_⟩, ?_⟩
  · have hblk : (sortWorldK enc k w g 0 q d os).heap[g]? = some (.cells (putCells id 0 (flatK enc k d) cur) e (0, 0)) := by
      unfold sortWorldK
      rw [heap_grow_old _ _ (by unfold putRowK; rw [size_putRow]; exact hglt)]
      unfold putRowK putRow mapBlock
      show (w.heap.modify g _)[g]? = _
      rw [Array.getElem?_modify, if_pos rfl, hg]
      rfl
    refine ⟨g, cap, _, rfl, hbg, hblk, hcap, hmax, by simp [putCells, hsz], ?_⟩
    apply List.ext_getElem?
    intro t
    by_cases ht : t < n * k
    · rw [flatMap_get enc k hk hk0 _ t (by simpa [hd] using ht), List.getElem?_take, if_pos ht]
      have h := (hH' t (by rw [size_flatK, hd]; exact ht)).1
      rw [get_flatK _ _ _ _ (by rw [hd]; exact ht)] at h
      simp only [World.cell?, hblk, Nat.zero_add] at h
      simpa using h
    · rw [List.getElem?_eq_none (by simp; omega), List.getElem?_eq_none (by rw [flatMap_len enc k hk]; simp [hd]; omega)]
  · refine ⟨rfl, rfl, rfl, size_sortWorldK_c enc k w g 0 q _ os, fun j hj => ?_⟩
    unfold sortWorldK
    rw [heap_grow_old _ _ (by unfold putRowK; rw [size_putRow]; show j < w.heap.size; omega)]
    unfold putRowK putRow mapBlock
    show (w.heap.modify g _)[j]? = _
    rw [Array.getElem?_modify, if_neg (by omega)]
end

abbrev Ak := Int × Pl
def encA (x : Ak) : List Value := [.int .i64 x.1, .string x.2.1, .int .i64 x.2.2]
def cellsA (l : List Ak) : List Value := l.flatMap encA
def ltA (x y : Ak) : Bool := ltP x.2 y.2 || (!ltP y.2 x.2 && decide (x.1 < y.1))
def ordA (x y : Ak) : Int := ordP x.2 y.2

set_option maxHeartbeats 1000000 in
theorem plan1 (x y : Ak) (w : World) : Calls Try.prog 32 #[.agg (encA x).toArray, .agg (encA y).toArray] w fun e w' => e = .returned (.int .i64 (ordA x y)) ∧ ∃ q os', w' = grow (w.drewN q) os' := by
  obtain ⟨i, s, n⟩ := x
  obtain ⟨j, t, m⟩ := y
  have ho := fun W => order s t n m W
  simp only [encA, ordA, ordP]
  generalize orI (cmpI n m) (cmpS s t) = r at ho
  go_enter Try.func32, Try.ntmps32
  go_wp2_with (go_at_call 33; refine (ho _).mono ?_; rintro e w' ⟨rfl, q, os, rfl⟩)
  go_ret
  refine ⟨rfl, q, #[.cells #[.int .i64 i, .string s, .int .i64 n] 32, .cells #[.int .i64 j, .string t, .int .i64 m] 32] ++ os, ?_⟩
  rw [alloc_eq_grow, alloc_eq_grow, grow_grow]
  show grow (grow (w.drewN q) _) os = _
  rw [grow_grow]
  rfl

theorem ltOf_ordA (x y : Ak) : ltOf ordA x y = ltP x.2 y.2 := by
  show ltOf ordP x.2 y.2 = _
  exact ltOf_ordP x.2 y.2
theorem swoA : SWO ltA where
  irrefl x := by simp [ltA, swoP.irrefl]
  trans x y z h1 h2 := by
    simp only [ltA, Bool.or_eq_true, Bool.and_eq_true, Bool.not_eq_true', decide_eq_true_eq] at *
    rcases h1 with h1 | ⟨h1, h1'⟩ <;> rcases h2 with h2 | ⟨h2, h2'⟩
    · exact .inl (swoP.trans _ _ _ h1 h2)
    · refine .inl ?_
      cases h : ltP x.2 z.2 with
      | true => rfl
      | false => have := swoP.ntrans _ _ _ h h2; rw [this] at h1; cases h1
    · refine .inl ?_
      cases h : ltP x.2 z.2 with
      | true => rfl
      | false => have := swoP.ntrans _ _ _ h1 h; rw [this] at h2; cases h2
    · exact .inr ⟨swoP.ntrans _ _ _ h2 h1, by omega⟩
  ntrans x y z h1 h2 := by
    simp only [ltA, Bool.or_eq_false_iff, Bool.and_eq_false_imp, Bool.not_eq_true', decide_eq_false_iff_not] at *
    refine ⟨swoP.ntrans _ _ _ h1.1 h2.1, fun h => ?_⟩
    have e1 : ltP y.2 x.2 = false := by
      cases h' : ltP y.2 x.2 with
      | false => rfl
      | true =>
        have := swoP.ntrans _ _ _ h2.1 h
        rw [this] at h'; cases h'
    have e2 : ltP z.2 y.2 = false := by
      cases h' : ltP z.2 y.2 with
      | false => rfl
      | true =>
        have := swoP.ntrans _ _ _ h h1.1
        rw [this] at h'; cases h'
    have := h1.2 e1
    have := h2.2 e2
    omega
theorem totA (x y : Ak) (h1 : ltA x y = false) (h2 : ltA y x = false) : x = y := by
  simp only [ltA, Bool.or_eq_false_iff, Bool.and_eq_false_imp, Bool.not_eq_true', decide_eq_false_iff_not] at *
  have e := totP x.2 y.2 h1.1 h2.1
  have e1 := h1.2 h2.1
  have e2 := h2.2 h1.1
  exact Prod.ext (by omega) e
def sortA (l : List Ak) : List Ak := l.mergeSort fun x y => !ltA y x

theorem stL : StL Try.prog where
  mixed := by kernel_rfl
  f127 := Try.func127
  f97 := Try.func97
  f80 := Try.func80
  t0 := Try.underlying0
  a0 := Try.isAgg0
  z0 := Try.sizeOf0
  v0 := Try.zeroValue0
  t3 := Try.underlying3
  a3 := Try.isAgg3
  z3 := Try.sizeOf3
  v3 := Try.zeroValue3
  t4 := Try.underlying4
  a4 := Try.isAgg4
  z4 := Try.sizeOf4
  v4 := Try.zeroValue4
  t25 := Try.underlying25
  a25 := Try.isAgg25
  z25 := Try.sizeOf25
  v25 := Try.zeroValue25
  t88 := Try.underlying88
  a88 := Try.isAgg88
  z88 := Try.sizeOf88
  v88 := Try.zeroValue88
  t150 := Try.underlying150
  a150 := Try.isAgg150
  z150 := Try.sizeOf150
  v150 := Try.zeroValue150

theorem stableNone (fv : Value) (w : World) : Calls Try.prog 57 #[.slice none 0 0, .int .i64 0, fv] w fun e w' => e = .returned (.tuple #[]) ∧ w' = w := by
  have hi := fun W => AnyF.insertionSortCmpFunc_none Ytdkhaohjfclceaa.Sh.insAsk none 0 fv W
  change ∀ W, Calls Try.prog 79 _ _ _ at hi
  go_enter Try.func57, Try.ntmps57
  go_wp2
  refine wp_loop_rounds 1 ?_
  rw [rounds_succ]
  go_wp2_with (go_at_call 79; refine (hi _).mono ?_; rintro e w' ⟨rfl, rfl⟩)
  refine wp_loop_rounds 1 ?_
  rw [rounds_succ]
  go_wp2
  go_end0
  exact ⟨rfl, rfl⟩

theorem agreeA {ss : List Ak} (hpw : ss.Pairwise fun x y => x.1 ≤ y.1) : ∀ x y, x < y → y < ss.toArray.size → ltOf ordA ss.toArray[y]! ss.toArray[x]! = ltA ss.toArray[y]! ss.toArray[x]! := by
  intro x y h1 h2
  have h2' : y < ss.length := by simpa using h2
  have h := List.pairwise_iff_getElem.1 hpw x y (by omega) h2' h1
  rw [ltOf_ordA]
  have ex : ss.toArray[x]! = ss[x]'(by omega) := by simp [getElem!_pos, show x < ss.length by omega]
  have ey : ss.toArray[y]! = ss[y]'h2' := by simp [getElem!_pos, h2']
  rw [ex, ey]
  unfold ltA
  have : ¬ (ss[y]'h2').1 < (ss[x]'(by omega)).1 := by omega
  simp [this]

set_option maxHeartbeats 1000000 in
/-- An owned row of asks, their peers not descending, is sorted by place, then by peer. -/
theorem sortStable (base : Nat) (v : Value) (ss : List Ak) (w : World) (hrow : w.ownsRow base 32 3 v ss.length (cellsA ss)) (hb : base ≤ w.heap.size) (hl : ss.length < 2305843009213693952) (hpw : ss.Pairwise fun x y => x.1 ≤ y.1) :
    Calls Try.prog 31 #[v, .func (.func 32) #[] #[]] w fun e w' => e = .returned (.tuple #[]) ∧ w'.ownsRow base 32 3 v ss.length (cellsA (sortA ss)) ∧ Below base w w' := by
  obtain ⟨hlen, hv⟩ := hrow
  rcases hv with ⟨rfl, h0⟩ | ⟨g, cap, cur, rfl, hbg, hg, hcap, hmax, hsz, htake⟩
  · obtain rfl : ss = [] := List.eq_nil_of_length_eq_zero h0
    go_enter Try.func31, Try.ntmps31
    go_wp2_with (go_at_call 57; refine (stableNone _ _).mono ?_; rintro e w' ⟨rfl, rfl⟩)
    go_end0
    exact ⟨rfl, ⟨by simp [sortA, cellsA], .inl ⟨rfl, rfl⟩⟩, Below.refl _ _⟩
  · have hglt : g < w.heap.size := (Array.getElem?_eq_some_iff.1 hg).1
    have hk : ∀ x, (encA x).length = 3 := fun _ => rfl
    have h1 : ∀ x, ∀ v ∈ encA x, v.oneCell' = true := fun x v hv => by
      simp [encA] at hv
      rcases hv with rfl | rfl | rfl <;> rfl
    have hH : HoldsK encA 3 w g 0 ss.toArray := holdsK_of_row hk (by omega) hg htake
    have eg : ∀ args w, (callFunc 32 args).run Try.prog w = .ok (.enter 32 args) w := enters_of Try.func32 (by kernel_rfl) rfl
    have hcmp : CmpLays Try.prog 32 #[] encA 3 ordA g 0 ss.toArray.size w := fun _ _ _ _ x y => plan1 x y _
    have R : RowK encA 3 w g 0 ss.toArray := ⟨hk, h1, hH, hglt⟩
    have hO : SWO (ltOf ordA) := by
      have e : ltOf ordA = fun x y => ltP x.2 y.2 := funext fun x => funext fun y => ltOf_ordA x y
      rw [e]
      exact ⟨fun x => swoP.irrefl _, fun x y z => swoP.trans _ _ _, fun x y z => swoP.ntrans _ _ _⟩
    have hs62 : ss.toArray.size < 4611686018427387904 := by simp; omega
    have hins : ∀ (a b : Nat) (d : Array Ak) (W : World), d.size = ss.toArray.size → SWK encA 3 w g 0 d W → a ≤ b → b ≤ ss.toArray.size → Calls Try.prog 79 #[.slice (some ⟨g, 0, none⟩) ss.toArray.size cap, .int .i64 a, .int .i64 b, .func (.func 32) #[] #[]] W fun e w' => e = .returned (.tuple #[]) ∧ SWK encA 3 w g 0 (Sort.insertionSort (ltOf ordA) d a b) w' := by
      intro a b d W hd S hab hbn
      have h := AnyQ.insertionSortCmpFunc_w Ytdkhaohjfclceaa.Sh.insAsk 3 Try.isAgg32 Try.sizeOf32 encA ordA 32 #[] g 0 cap a b ss.toArray d w W eg hcmp R hd.symm S hO hab (by omega) (by omega)
      rw [hd] at h
      exact h
    have hst := stable stL Try.func57 Try.func79 3 Try.isAgg32 Try.sizeOf32 encA ordA ltA swoA 32 #[] g 0 cap ss.toArray w eg hcmp R (by simpa using hl) hins (agreeA hpw) w (SWK.start hH)
    simp only [List.size_toArray] at hst
    have HST := Lib.hid hst
    clear hst hins hcmp hH
    go_enter Try.func31, Try.ntmps31
    go_wp2_with (go_at_call 57; refine HST.out.mono ?_; rintro e w' ⟨rfl, d', hP, hQ, S⟩)
    go_end0
    have hd : d'.size = ss.length := by have := hP.1; simpa using this
    have e1 : d'.toList = sortA ss := by
      have := sorted_unique_holds swoA totA ss.toArray d' (by simpa using hP) (by simpa using hQ)
      simpa [sortA] using this
    have hr := row_of_SWK hk (by omega) hbg hb hg hcap hmax hsz R.hH (by simp) hd S
    rw [e1] at hr
    exact ⟨rfl, hr.1, hr.2⟩

#print axioms row_of_SWK
#print axioms sortStable
end Go.Proofs.Ytdkhaohjfclceaa.Rp
