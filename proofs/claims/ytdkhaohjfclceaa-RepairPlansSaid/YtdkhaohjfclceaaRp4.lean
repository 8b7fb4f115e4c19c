/- repair.order: places are compared by index, then by shard. -/
import Derived.Test.YtdkhaohjfclceaaPRpx7
import Derived.Test.YtdkhaohjfclceaaRp1
import Derived.Shelf.SlSortCmp.NoneTotal
import Derived.Lib.Hide
set_option linter.unusedVariables false
set_option linter.unusedSimpArgs false
namespace Go.Proofs.Ytdkhaohjfclceaa.Rp
open Go.RowKit Go.Sort Go.Proofs.Ytdkhaohjfclceaa.Mp Go.Proofs.Ytdkhaohjfclceaa.PRp Go.Proofs.YtdkhaohjfclceaaW.PrintWords Go.Proofs.YtdkhaohjfclceaaW.PrintLast Go.Proofs.YtdkhaohjfclceaaW.PrintMore

theorem isNaNs (a : ByteArray) (w : World) : Calls Try.prog 82 #[.string a] w fun e w' => e = .returned (.bool false) ∧ w' = w := by
  go_enter Try.func82, Try.ntmps82
  go_wp2
  go_ret
  simp

theorem isNaNi (a : Int) (w : World) : Calls Try.prog 81 #[.int .i64 a] w fun e w' => e = .returned (.bool false) ∧ w' = w := by
  go_enter Try.func81, Try.ntmps81
  go_wp2
  go_ret
  simp

def cmpS (a b : ByteArray) : Int := if Op.bytesLess a.toList b.toList = true then -1 else if (a.toList == b.toList) = true then 0 else 1
def cmpI (a b : Int) : Int := if a < b then -1 else if b < a then 1 else 0

set_option maxHeartbeats 1000000 in
theorem compareS (a b : ByteArray) (w : World) : Calls Try.prog 60 #[.string a, .string b] w fun e w' => e = .returned (.int .i64 (cmpS a b)) ∧ w' = w := by
  cases h1 : Op.bytesLess a.toList b.toList with
  | true =>
    have hs : cmpS a b = -1 := by simp [cmpS, h1]
    rw [hs]
    clear hs
    go_enter Try.func60, Try.ntmps60
    go_wp2_with (go_at_call 82; refine (isNaNs _ _).mono ?_; rintro e w' ⟨rfl, rfl⟩)
    go_ret
    exact ⟨rfl, rfl⟩
  | false =>
    cases h2 : (a.toList == b.toList) with
    | true =>
      have hs : cmpS a b = 0 := by unfold cmpS; rw [h1, h2]; rfl
      rw [hs]
      clear hs
      go_enter Try.func60, Try.ntmps60
      go_wp2_with (go_at_call 82; refine (isNaNs _ _).mono ?_; rintro e w' ⟨rfl, rfl⟩)
      go_ret
      exact ⟨rfl, rfl⟩
    | false =>
      have hs : cmpS a b = 1 := by unfold cmpS; rw [h1, h2]; rfl
      rw [hs]
      clear hs
      go_enter Try.func60, Try.ntmps60
      go_wp2_with (go_at_call 82; refine (isNaNs _ _).mono ?_; rintro e w' ⟨rfl, rfl⟩)
      go_ret
      exact ⟨rfl, rfl⟩

theorem compareI (a b : Int) (w : World) : Calls Try.prog 59 #[.int .i64 a, .int .i64 b] w fun e w' => e = .returned (.int .i64 (cmpI a b)) ∧ w' = w := by
  by_cases h1 : a < b
  · have hs : cmpI a b = -1 := by simp [cmpI, h1]
    rw [hs]
    clear hs
    go_enter Try.func59, Try.ntmps59
    go_wp2_with (go_at_call 81; refine (isNaNi _ _).mono ?_; rintro e w' ⟨rfl, rfl⟩)
    go_ret
    exact ⟨rfl, rfl⟩
  · by_cases h2 : b < a
    · have hs : cmpI a b = 1 := by simp [cmpI, h1, h2]
      rw [hs]
      clear hs
      go_enter Try.func59, Try.ntmps59
      go_wp2_with (go_at_call 81; refine (isNaNi _ _).mono ?_; rintro e w' ⟨rfl, rfl⟩)
      go_ret
      exact ⟨rfl, rfl⟩
    · have hs : cmpI a b = 0 := by simp [cmpI, h1, h2]
      rw [hs]
      clear hs
      go_enter Try.func59, Try.ntmps59
      go_wp2_with (go_at_call 81; refine (isNaNi _ _).mono ?_; rintro e w' ⟨rfl, rfl⟩)
      go_ret
      exact ⟨rfl, rfl⟩

def orI (a b : Int) : Int := if a = 0 then b else a

set_option maxHeartbeats 2000000 in
theorem or2 (g : Nat) (a b : Int) (w : World) (h0 : w.cell? ⟨g, 0, none⟩ = some (.int .i64 a)) (h1 : w.cell? ⟨g, 1, none⟩ = some (.int .i64 b)) :
    Calls Try.prog 58 #[.slice (some ⟨g, 0, none⟩) 2 2] w fun e w' => e = .returned (.int .i64 (orI a b)) ∧ w' = w := by
  by_cases ha : a = 0
  · subst ha
    by_cases hb : b = 0
    · subst hb
      have hs : orI 0 0 = 0 := rfl
      rw [hs]
      go_enter Try.func58, Try.ntmps58
      go_wp2
      refine wp_loop_rounds 3 ?_
      rw [rounds_succ]
      go_wp2
      rw [rounds_succ]
      go_wp2
      rw [rounds_succ]
      go_wp2
      go_ret
      exact ⟨rfl, rfl⟩
    · have hs : orI 0 b = b := rfl
      rw [hs]
      go_enter Try.func58, Try.ntmps58
      go_wp2
      refine wp_loop_rounds 3 ?_
      rw [rounds_succ]
      go_wp2
      rw [rounds_succ]
      go_wp2
      go_ret
      exact ⟨rfl, rfl⟩
  · have hs : orI a b = a := if_neg ha
    rw [hs]
    go_enter Try.func58, Try.ntmps58
    go_wp2
    refine wp_loop_rounds 3 ?_
    rw [rounds_succ]
    go_wp2
    go_ret
    exact ⟨rfl, rfl⟩

theorem cell_alloc_old {w : World} {a : Addr} {v : Value} (h : w.cell? a = some v) {o : Obj} : (w.alloc o).cell? a = some v :=
  pw_cell_below ((Below.refl w.heap.size w).alloc (Nat.le_refl _) o) h

def ordP (p q : Pl) : Int := orI (cmpI p.2 q.2) (cmpS p.1 q.1)
def order.T1 : Bool × List (List Nat × List Nat) := (true, [([], []), ([0], [0]), ([], []), ([2], [2]), ([1, 3], [1, 3]), ([], []), ([5], [5]), ([], []), ([7], [7]), ([6, 8, 4], [6, 8]), ([4, 9], [4, 9]), ([10, 9], [10]), ([11, 11, 0, 1, 2, 3, 4, 5, 6, 7, 8, 9, 10, 11], [11])])
def order.B1 : List Nat := [0, 1, 0, 4, 15, 0, 32, 0, 128, 511, 1023, 2047, 4095]
theorem order.tab1 : rtab .any (opsOf Try.f33 1) = order.T1 := by kernel_rfl
theorem order.bits1 : waitsOk order.T1.2 order.B1 = true := by kernel_rfl
set_option maxHeartbeats 8000000 in
set_option maxRecDepth 100000 in
theorem order (s s' : ByteArray) (i i' : Int) (w : World) :
    Calls Try.prog 33 #[.agg #[.string s, .int .i64 i], .agg #[.string s', .int .i64 i']] w fun e w' => e = .returned (.int .i64 (orI (cmpI i i') (cmpS s s'))) ∧ ∃ q os', w' = grow (w.drewN q) os' := by
  have hu30 := Try.underlying30
  go_enter Try.func33, Try.ntmps33
  go_wp2
  have hS : (((w.alloc (.cells #[.string s, .int .i64 i] 30)).alloc (.cells #[.string s', .int .i64 i'] 30)).drew.cell? ⟨w.heap.size, 0, none⟩ = some (.string s)) ∧ (((w.alloc (.cells #[.string s, .int .i64 i] 30)).alloc (.cells #[.string s', .int .i64 i'] 30)).drew.cell? ⟨w.heap.size, 1, none⟩ = some (.int .i64 i)) ∧ (((w.alloc (.cells #[.string s, .int .i64 i] 30)).alloc (.cells #[.string s', .int .i64 i'] 30)).drew.cell? ⟨w.heap.size + 1, 0, none⟩ = some (.string s')) ∧ (((w.alloc (.cells #[.string s, .int .i64 i] 30)).alloc (.cells #[.string s', .int .i64 i'] 30)).drew.cell? ⟨w.heap.size + 1, 1, none⟩ = some (.int .i64 i')) := by
    refine ⟨?_, ?_, ?_, ?_⟩ <;> go_simp
  obtain ⟨W3, hW3⟩ : ∃ W3, ((w.alloc (.cells #[.string s, .int .i64 i] 30)).alloc (.cells #[.string s', .int .i64 i'] 30)).drew = W3 := ⟨_, rfl⟩
  rw [hW3] at hS
  have hc0 : (W3.alloc (.cells #[.int .i64 (cmpI i i'), .int .i64 (cmpS s s')] 3)).cell? ⟨W3.heap.size, 0, none⟩ = some (.int .i64 (cmpI i i')) := by go_simp
  have hc1 : (W3.alloc (.cells #[.int .i64 (cmpI i i'), .int .i64 (cmpS s s')] 3)).cell? ⟨W3.heap.size, 1, none⟩ = some (.int .i64 (cmpS s s')) := by go_simp
  have hS2 : (W3.alloc (.cells #[.int .i64 (cmpI i i'), .int .i64 (cmpS s s')] 3)).cell? ⟨w.heap.size, 0, none⟩ = some (.string s) ∧ (W3.alloc (.cells #[.int .i64 (cmpI i i'), .int .i64 (cmpS s s')] 3)).cell? ⟨w.heap.size, 1, none⟩ = some (.int .i64 i) ∧ (W3.alloc (.cells #[.int .i64 (cmpI i i'), .int .i64 (cmpS s s')] 3)).cell? ⟨w.heap.size + 1, 0, none⟩ = some (.string s') ∧ (W3.alloc (.cells #[.int .i64 (cmpI i i'), .int .i64 (cmpS s s')] 3)).cell? ⟨w.heap.size + 1, 1, none⟩ = some (.int .i64 i') :=
    ⟨cell_alloc_old hS.1, cell_alloc_old hS.2.1, cell_alloc_old hS.2.2.1, cell_alloc_old hS.2.2.2⟩
  have hW4' : W3.alloc (.cells #[.int .i64 (cmpI i i'), .int .i64 (cmpS s s')] 3) = grow (w.drewN 1) #[.cells #[.string s, .int .i64 i] 30, .cells #[.string s', .int .i64 i'] 30, .cells #[.int .i64 (cmpI i i'), .int .i64 (cmpS s s')] 3] := by
    rw [← hW3, alloc_eq_grow, alloc_eq_grow, alloc_eq_grow, drew_grow, drew_grow, grow_grow, grow_grow]
    rfl
  have hW4 := Lib.hid hW4'
  clear hW4'
  refine start_ (n := 13) (S := fun w' => w'.cell? ⟨w.heap.size, 0, none⟩ = some (.string s) ∧ w'.cell? ⟨w.heap.size, 1, none⟩ = some (.int .i64 i) ∧ w'.cell? ⟨w.heap.size + 1, 0, none⟩ = some (.string s') ∧ w'.cell? ⟨w.heap.size + 1, 1, none⟩ = some (.int .i64 i')) (ds := []) #[false, false, false, false, false, false, false, false, false, false, false, false, false] (by kernel_rfl) rfl rfl (by rw [hW3]; exact hS) (fun hHeld => ?_); refine with_tabW order.tab1 order.bits1 (fun HT_ HW_ => ?_)
  rw [hW3] at hHeld ⊢
  clear hW3
  refine pure_ (i := 0) (N := some 5) (v := ?_) (a' := ?_) #[true, false, false, false, false, false, false, false, false, false, false, false, false] rfl rfl (any_of HT_.out (by kernel_rfl)) (fun _ _ _ h => h) (Or.inl ⟨by rfl, ?_⟩) ?_ ?_
  rotate_left
  · intro w'
    go_simp
    with_reducible rfl
  rotate_left
  · simp only [Act.put, List.setIfInBounds_toArray, List.set_cons_zero, List.set_cons_succ, i64_w, i32_w]
    rfl
  refine pure_ (i := 2) (N := some 7) (v := ?_) (a' := ?_) #[true, false, true, false, false, false, false, false, false, false, false, false, false] rfl rfl (any_of HT_.out (by kernel_rfl)) (fun _ _ _ h => h) (Or.inl ⟨by rfl, ?_⟩) ?_ ?_
  rotate_left
  · intro w'
    go_simp
    with_reducible rfl
  rotate_left
  · simp only [Act.put, List.setIfInBounds_toArray, List.set_cons_zero, List.set_cons_succ, i64_w, i32_w]
    rfl
  refine pure_ (i := 5) (N := some 10) (v := ?_) (a' := ?_) #[true, false, true, false, false, true, false, false, false, false, false, false, false] rfl rfl (any_of HT_.out (by kernel_rfl)) (fun _ _ _ h => h) (Or.inl ⟨by rfl, ?_⟩) ?_ ?_
  rotate_left
  · intro w'
    go_simp
    with_reducible rfl
  rotate_left
  · simp only [Act.put, List.setIfInBounds_toArray, List.set_cons_zero, List.set_cons_succ, i64_w, i32_w]
    rfl
  refine pure_ (i := 7) (N := some 12) (v := ?_) (a' := ?_) #[true, false, true, false, false, true, false, true, false, false, false, false, false] rfl rfl (any_of HT_.out (by kernel_rfl)) (fun _ _ _ h => h) (Or.inl ⟨by rfl, ?_⟩) ?_ ?_
  rotate_left
  · intro w'
    go_simp
    with_reducible rfl
  rotate_left
  · simp only [Act.put, List.setIfInBounds_toArray, List.set_cons_zero, List.set_cons_succ, i64_w, i32_w]
    rfl
  refine take_ (i := 1) (N := some 6) (v := ?_) (a' := ?_) #[true, true, true, false, false, true, false, true, false, false, false, false, false] rfl rfl (take_ofW HT_.out HW_.out (by kernel_rfl)) (fun _ _ _ h => h) (Or.inl ⟨by rfl, ?_⟩) hHeld ?_ ?_
  rotate_left
  · rintro w' ⟨s0, s1, s2, s3⟩
    go_simp
    with_reducible rfl
  rotate_left
  · simp only [Act.put, List.setIfInBounds_toArray, List.set_cons_zero, List.set_cons_succ, i64_w, i32_w]
    rfl
  refine take_ (i := 3) (N := some 8) (v := ?_) (a' := ?_) #[true, true, true, true, false, true, false, true, false, false, false, false, false] rfl rfl (take_ofW HT_.out HW_.out (by kernel_rfl)) (fun _ _ _ h => h) (Or.inl ⟨by rfl, ?_⟩) hHeld ?_ ?_
  rotate_left
  · rintro w' ⟨s0, s1, s2, s3⟩
    go_simp
    with_reducible rfl
  rotate_left
  · simp only [Act.put, List.setIfInBounds_toArray, List.set_cons_zero, List.set_cons_succ, i64_w, i32_w]
    rfl
  refine take_ (i := 6) (N := some 11) (v := ?_) (a' := ?_) #[true, true, true, true, false, true, true, true, false, false, false, false, false] rfl rfl (take_ofW HT_.out HW_.out (by kernel_rfl)) (fun _ _ _ h => h) (Or.inl ⟨by rfl, ?_⟩) hHeld ?_ ?_
  rotate_left
  · rintro w' ⟨s0, s1, s2, s3⟩
    go_simp
    with_reducible rfl
  rotate_left
  · simp only [Act.put, List.setIfInBounds_toArray, List.set_cons_zero, List.set_cons_succ, i64_w, i32_w]
    rfl
  refine take_ (i := 8) (N := some 13) (v := ?_) (a' := ?_) #[true, true, true, true, false, true, true, true, true, false, false, false, false] rfl rfl (take_ofW HT_.out HW_.out (by kernel_rfl)) (fun _ _ _ h => h) (Or.inl ⟨by rfl, ?_⟩) hHeld ?_ ?_
  rotate_left
  · rintro w' ⟨s0, s1, s2, s3⟩
    go_simp
    with_reducible rfl
  rotate_left
  · simp only [Act.put, List.setIfInBounds_toArray, List.set_cons_zero, List.set_cons_succ, i64_w, i32_w]
    rfl
  refine one_ (i := 4) (N := some 9) #[true, true, true, true, true, true, true, true, true, false, false, false, false] rfl rfl (one_of HT_.out (by kernel_rfl)) (by decide) (fun K hK => ?_)
  refine goes_ Try.func59 (by kernel_rfl) rfl #[.int .i64 i, .int .i64 i'] (by rfl) rfl rfl (by simp only [List.map_toArray, List.map_cons, List.map_nil]; rfl) ?_
  refine (compareI i i' _).mono ?_
  rintro e w' ⟨rfl, he⟩
  subst w'
  refine ⟨_, rfl, ?_⟩
  refine hK.out _ _ hS (fun hHeld => ?_)
  clear hK K
  refine norm_ (a' := ?_) ?_ ?_
  rotate_left
  · show Act.put _ (some 9) _ = _
    simp only [Act.put, List.setIfInBounds_toArray, List.set_cons_zero, List.set_cons_succ, i64_w, i32_w]
    rfl
  refine one_ (i := 9) (N := some 14) #[true, true, true, true, true, true, true, true, true, true, false, false, false] rfl rfl (one_of HT_.out (by kernel_rfl)) (by decide) (fun K hK => ?_)
  refine goes_ Try.func60 (by kernel_rfl) rfl #[.string s, .string s'] (by rfl) rfl rfl (by simp only [List.map_toArray, List.map_cons, List.map_nil]; rfl) ?_
  refine (compareS s s' _).mono ?_
  rintro e w' ⟨rfl, he⟩
  subst w'
  refine ⟨_, rfl, ?_⟩
  refine hK.out _ _ hS (fun hHeld => ?_)
  clear hK K
  refine norm_ (a' := ?_) ?_ ?_
  rotate_left
  · show Act.put _ (some 14) _ = _
    simp only [Act.put, List.setIfInBounds_toArray, List.set_cons_zero, List.set_cons_succ, i64_w, i32_w]
    rfl
  refine one_ (i := 10) (N := some 15) #[true, true, true, true, true, true, true, true, true, true, true, false, false] rfl rfl (one_of HT_.out (by kernel_rfl)) (by decide) (fun K hK => ?_)
  refine event_step (w1 := W3.alloc (.cells #[.int .i64 (cmpI i i'), .int .i64 (cmpS s s')] 3)) (v := .slice (some ⟨W3.heap.size, 0, none⟩) 2 2) (by rfl) (by go_simp) ?_
  refine hK.out _ _ hS2 (fun hHeld => ?_)
  clear hK K
  refine norm_ (a' := ?_) ?_ ?_
  rotate_left
  · show Act.put _ (some 15) _ = _
    simp only [Act.put, List.setIfInBounds_toArray, List.set_cons_zero, List.set_cons_succ, i64_w, i32_w]
    rfl
  refine one_ (i := 11) (N := some 16) #[true, true, true, true, true, true, true, true, true, true, true, true, false] rfl rfl (one_of HT_.out (by kernel_rfl)) (by decide) (fun K hK => ?_)
  refine goes_ Try.func58 (by kernel_rfl) rfl #[.slice (some ⟨W3.heap.size, 0, none⟩) 2 2] (by rfl) rfl rfl (by simp only [List.map_toArray, List.map_cons, List.map_nil]; rfl) ?_
  refine (or2 W3.heap.size (cmpI i i') (cmpS s s') _ hc0 hc1).mono ?_
  rintro e w' ⟨rfl, he⟩
  subst w'
  refine ⟨_, rfl, ?_⟩
  refine hK.out _ _ hS2 (fun hHeld => ?_)
  clear hK K
  refine norm_ (a' := ?_) ?_ ?_
  rotate_left
  · show Act.put _ (some 16) _ = _
    simp only [Act.put, List.setIfInBounds_toArray, List.set_cons_zero, List.set_cons_succ, i64_w, i32_w]
    rfl
  refine pure_ (i := 12) (N := some 4) (v := ?_) (a' := ?_) #[true, true, true, true, true, true, true, true, true, true, true, true, true] rfl rfl (any_of HT_.out (by kernel_rfl)) (fun _ _ _ h => h) (Or.inl ⟨by rfl, ?_⟩) ?_ ?_
  rotate_left
  · intro w'
    go_simp
    with_reducible rfl
  rotate_left
  · simp only [Act.put, List.setIfInBounds_toArray, List.set_cons_zero, List.set_cons_succ, i64_w, i32_w]
    rfl
  refine done_ (done_of HT_.out (by kernel_rfl)) ?_
  go_wp2
  go_ret
  exact ⟨rfl, _, _, hW4.out⟩

#print axioms order
end Go.Proofs.Ytdkhaohjfclceaa.Rp
