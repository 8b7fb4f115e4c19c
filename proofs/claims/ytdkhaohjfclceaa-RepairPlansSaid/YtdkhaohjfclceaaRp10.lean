/- repair.Alike. (Printed by rp10gen.py.) -/
import Derived.Test.YtdkhaohjfclceaaRp9
set_option linter.unusedVariables false
set_option linter.unusedSimpArgs false
namespace Go.Proofs.Ytdkhaohjfclceaa.Rp
open Go.RowKit Go.Proofs.Ytdkhaohjfclceaa.Mp Go.Proofs.Ytdkhaohjfclceaa.PRp Go.Proofs.YtdkhaohjfclceaaW.PrintWords Go.Proofs.YtdkhaohjfclceaaW.PrintLast Go.Proofs.YtdkhaohjfclceaaW.PrintMore

def alikeL (ls : List (List S81)) : Bool := (List.range ls.length).all fun q => q == 0 || eqM (placedL (rd_L4 ls 0)) (placedL (rd_L4 ls (q : Int)))
def alike.T1 : Bool × List (List Nat × List Nat) := (true, [([], []), ([0], [0]), ([1], [1]), ([2], [2]), ([], []), ([], []), ([4, 5], [4, 5]), ([6], [6]), ([7, 3], [7]), ([3, 8, 8], [3, 8]), ([9], [9])])
def alike.B1 : List Nat := [0, 1, 3, 7, 0, 0, 48, 112, 255, 511, 1023]
theorem alike.tab1 : rtab .any (opsOf Try.f9 4) = alike.T1 := by kernel_rfl
theorem alike.bits1 : waitsOk alike.T1.2 alike.B1 = true := by kernel_rfl

set_option maxRecDepth 100000 in
set_option maxHeartbeats 8000000 in
theorem alike (A : Option Addr) (c : Nat) (ls : List (List S81)) (w : World) (hr : Kd.C (Kd.slice 81 k81) w A ls.length ls) (hc : ls.length ≤ c) :
    Calls Try.prog 9 #[.slice A ls.length c] w fun e w' => e = .returned (.bool (alikeL ls)) ∧ Below w.heap.size w w' := by
  have hlen : ls.length ≤ 9223372036854775807 := hr.2.1
  have HR := Lib.hid hr
  clear hr
  go_enter Try.func9, Try.ntmps9
  go_wp2
  go_loopg [3] (ls.length + 1) (fun kx s3 wr => ∃ i : Nat, s3 = .int .i64 i ∧ 1 ≤ i ∧ i ≤ ls.length + 1 ∧ ls.length + 1 - i ≤ kx ∧ Below w.heap.size w wr ∧ Aside0 (∀ q, 1 ≤ q → q < i → eqM (placedL (rd_L4 ls 0)) (placedL (rd_L4 ls (q : Int))) = true))
  case atStart => exact ⟨1, rfl, Nat.le_refl _, by omega, by omega, Below.refl _ _, ⟨fun q h1 h2 => by omega⟩⟩
  case round =>
    obtain ⟨i, rfl, h1i, hi, hkx, hB, HI⟩ := hrel
    by_cases hlt : i < ls.length
    · have hltz : (i : Int) < (ls.length : Int) := by omega
      have hBs := hB.size
      have hpos : 0 < ls.length := by omega
      obtain ⟨ad, Aq, cq, rfl, q0, hcq, hrq⟩ := at_L4 (Kd.C_below HR.out hB) 0 (by omega) (by omega)
      obtain ⟨ad', Ai, ci, had, q1, hci, hri⟩ := at_L4 (Kd.C_below HR.out hB) (i : Int) (by omega) (by omega)
      obtain rfl : ad' = ad := by injection had with h; exact h.symm
      simp only [Int.toNat_natCast, Int.toNat_zero] at q0 q1
      have q0' : wr.cell? ad' = some (.slice Aq (rd_L4 ls 0).length cq) := by simpa [Addr.add] using q0
      obtain ⟨x0, hx0⟩ : ∃ x, rd_L4 ls 0 = x := ⟨_, rfl⟩
      obtain ⟨xi, hxi⟩ : ∃ x, rd_L4 ls (i : Int) = x := ⟨_, rfl⟩
      rw [hx0] at q0' hcq hrq
      rw [hxi] at q1 hci hri
      have HX0 := Lib.hid hx0
      have HXi := Lib.hid hxi
      clear q0 had hx0 hxi
      obtain ⟨ad, rfl⟩ : ∃ ad, ad = ad' := ⟨ad', rfl⟩
      go_wp2_with fail
      obtain ⟨W2, hW2⟩ : ∃ W2, wr.drew = W2 := ⟨_, rfl⟩
      have hS : W2.cell? ad = some (.slice Aq x0.length cq) ∧ W2.cell? (ad.add i) = some (.slice Ai xi.length ci) := by rw [← hW2]; exact ⟨q0', q1⟩
      have hs2 : W2.heap.size = wr.heap.size := by rw [← hW2]; rfl
      have hB2' : Below w.heap.size w W2 := by rw [← hW2]; exact hB.drew
      have HPq := Lib.hid (placed Aq cq x0 W2 (by rw [← hW2]; exact Kd.C_drew hrq) hcq)
      have HPi := Lib.hid (fun w1 (hb : Below W2.heap.size W2 w1) => placed Ai ci xi w1 (Kd.C_below (by rw [← hW2]; exact Kd.C_drew hri) hb) hci)
      have HB2 := Lib.hid hB2'
      clear hB2' q0' q1 hrq hri
      refine start_ (n := 11) (S := fun w' => w'.cell? ad = some (.slice Aq x0.length cq) ∧ w'.cell? (ad.add i) = some (.slice Ai xi.length ci)) (ds := []) #[false, false, false, false, false, false, false, false, false, false, false] (by kernel_rfl) rfl rfl (by rw [hW2]; exact hS) (fun hHeld => ?_); refine with_tabW alike.tab1 alike.bits1 (fun HT_ HW_ => ?_)
      rw [hW2] at hHeld ⊢
      clear hW2
      refine pure_ (i := 0) (N := some 10) (v := ?_) (a' := ?_) #[true, false, false, false, false, false, false, false, false, false, false] rfl rfl (any_of HT_.out (by kernel_rfl)) (fun _ _ _ h => h) (Or.inl ⟨by rfl, ?_⟩) ?_ ?_
      rotate_left
      · intro w'
        go_simp
        with_reducible rfl
      rotate_left
      · simp only [Act.put, List.setIfInBounds_toArray, List.set_cons_zero, List.set_cons_succ, i64_w, i32_w]
        rfl
      refine pure_ (i := 1) (N := some 11) (v := ?_) (a' := ?_) #[true, true, false, false, false, false, false, false, false, false, false] rfl rfl (any_of HT_.out (by kernel_rfl)) (fun _ _ _ h => h) (Or.inl ⟨by rfl, ?_⟩) ?_ ?_
      rotate_left
      · intro w'
        go_simp
        with_reducible rfl
      rotate_left
      · simp only [Act.put, List.setIfInBounds_toArray, List.set_cons_zero, List.set_cons_succ, i64_w, i32_w]
        rfl
      refine pure_ (i := 4) (N := some 14) (v := ?_) (a' := ?_) #[true, true, false, false, true, false, false, false, false, false, false] rfl rfl (any_of HT_.out (by kernel_rfl)) (fun _ _ _ h => h) (Or.inl ⟨by rfl, ?_⟩) ?_ ?_
      rotate_left
      · intro w'
        go_simp
        with_reducible rfl
      rotate_left
      · simp only [Act.put, List.setIfInBounds_toArray, List.set_cons_zero, List.set_cons_succ, i64_w, i32_w]
        rfl
      refine pure_ (i := 5) (N := some 15) (v := ?_) (a' := ?_) #[true, true, false, false, true, true, false, false, false, false, false] rfl rfl (any_of HT_.out (by kernel_rfl)) (fun _ _ _ h => h) (Or.inl ⟨by rfl, ?_⟩) ?_ ?_
      rotate_left
      · intro w'
        go_simp
        with_reducible rfl
      rotate_left
      · simp only [Act.put, List.setIfInBounds_toArray, List.set_cons_zero, List.set_cons_succ, i64_w, i32_w]
        rfl
      refine pure_ (i := 6) (N := some 16) (v := ?_) (a' := ?_) #[true, true, false, false, true, true, true, false, false, false, false] rfl rfl (any_of HT_.out (by kernel_rfl)) (fun _ _ _ h => h) (Or.inl ⟨by rfl, ?_⟩) ?_ ?_
      rotate_left
      · intro w'
        go_simp
        with_reducible rfl
      rotate_left
      · simp only [Act.put, List.setIfInBounds_toArray, List.set_cons_zero, List.set_cons_succ, i64_w, i32_w]
        rfl
      refine take_ (i := 2) (N := some 12) (v := ?_) (a' := ?_) #[true, true, true, false, true, true, true, false, false, false, false] rfl rfl (take_ofW HT_.out HW_.out (by kernel_rfl)) (fun _ _ _ h => h) (Or.inl ⟨by rfl, ?_⟩) hHeld ?_ ?_
      rotate_left
      · rintro w' ⟨s0, s1⟩
        go_simp
        with_reducible rfl
      rotate_left
      · simp only [Act.put, List.setIfInBounds_toArray, List.set_cons_zero, List.set_cons_succ, i64_w, i32_w]
        rfl
      refine take_ (i := 7) (N := some 17) (v := ?_) (a' := ?_) #[true, true, true, false, true, true, true, true, false, false, false] rfl rfl (take_ofW HT_.out HW_.out (by kernel_rfl)) (fun _ _ _ h => h) (Or.inl ⟨by rfl, ?_⟩) hHeld ?_ ?_
      rotate_left
      · rintro w' ⟨s0, s1⟩
        go_simp
        with_reducible rfl
      rotate_left
      · simp only [Act.put, List.setIfInBounds_toArray, List.set_cons_zero, List.set_cons_succ, i64_w, i32_w]
        rfl
      refine one_ (i := 3) (N := some 13) #[true, true, true, true, true, true, true, true, false, false, false] rfl rfl (one_of HT_.out (by kernel_rfl)) (by decide) (fun K hK => ?_)
      refine goes_ Try.func36 (by kernel_rfl) rfl #[.slice Aq x0.length cq] (by rfl) rfl rfl (by simp only [List.map_toArray, List.map_cons, List.map_nil]; rfl) ?_
      refine HPq.out.mono ?_
      rintro e w1 ⟨rfl, hM1, hB1⟩
      refine ⟨_, rfl, ?_⟩
      have hs1 := hB1.size
      have hS1 : w1.cell? ad = some (.slice Aq x0.length cq) ∧ w1.cell? (ad.add i) = some (.slice Ai xi.length ci) := ⟨pw_cell_below hB1 hS.1, pw_cell_below hB1 hS.2⟩
      refine hK.out _ _ hS1 (fun hHeld => ?_)
      clear hK K
      refine norm_ (a' := ?_) ?_ ?_
      rotate_left
      · show Act.put _ (some 13) _ = _
        simp only [Act.put, List.setIfInBounds_toArray, List.set_cons_zero, List.set_cons_succ, i64_w, i32_w]
        rfl
      refine one_ (i := 8) (N := some 18) #[true, true, true, true, true, true, true, true, true, false, false] rfl rfl (one_of HT_.out (by kernel_rfl)) (by decide) (fun K hK => ?_)
      refine goes_ Try.func36 (by kernel_rfl) rfl #[.slice Ai xi.length ci] (by rfl) rfl rfl (by simp only [List.map_toArray, List.map_cons, List.map_nil]; rfl) ?_
      refine (HPi.out w1 hB1).mono ?_
      rintro e w2 ⟨rfl, hM2, hB2⟩
      refine ⟨_, rfl, ?_⟩
      have hs2 := hB2.size
      have hS2 : w2.cell? ad = some (.slice Aq x0.length cq) ∧ w2.cell? (ad.add i) = some (.slice Ai xi.length ci) := ⟨pw_cell_below hB2 hS1.1, pw_cell_below hB2 hS1.2⟩
      refine hK.out _ _ hS2 (fun hHeld => ?_)
      clear hK K
      refine norm_ (a' := ?_) ?_ ?_
      rotate_left
      · show Act.put _ (some 18) _ = _
        simp only [Act.put, List.setIfInBounds_toArray, List.set_cons_zero, List.set_cons_succ, i64_w, i32_w]
        rfl
      refine one_ (i := 9) (N := some 19) #[true, true, true, true, true, true, true, true, true, true, false] rfl rfl (one_of HT_.out (by kernel_rfl)) (by decide) (fun K hK => ?_)
      refine goes_ Try.func35 (by kernel_rfl) rfl #[.map (some W2.heap.size), .map (some w1.heap.size)] (by rfl) rfl rfl (by simp only [List.map_toArray, List.map_cons, List.map_nil]; rfl) ?_
      refine (mapsEqual W2.heap.size w1.heap.size (placedL x0) (placedL xi) w2 (hM1.below hB2 hM1.lt) hM2).mono ?_
      rintro e w3 ⟨rfl, hB3⟩
      refine ⟨_, rfl, ?_⟩
      have hs3 := hB3.size
      have hS3 : w3.cell? ad = some (.slice Aq x0.length cq) ∧ w3.cell? (ad.add i) = some (.slice Ai xi.length ci) := ⟨pw_cell_below hB3 hS2.1, pw_cell_below hB3 hS2.2⟩
      refine hK.out _ _ hS3 (fun hHeld => ?_)
      clear hK K
      refine norm_ (a' := ?_) ?_ ?_
      rotate_left
      · show Act.put _ (some 19) _ = _
        simp only [Act.put, List.setIfInBounds_toArray, List.set_cons_zero, List.set_cons_succ, i64_w, i32_w]
        rfl
      refine pure_ (i := 10) (N := some 20) (v := ?_) (a' := ?_) #[true, true, true, true, true, true, true, true, true, true, true] rfl rfl (any_of HT_.out (by kernel_rfl)) (fun _ _ _ h => h) (Or.inl ⟨by rfl, ?_⟩) ?_ ?_
      rotate_left
      · intro w'
        go_simp
        with_reducible rfl
      rotate_left
      · simp only [Act.put, List.setIfInBounds_toArray, List.set_cons_zero, List.set_cons_succ, i64_w, i32_w]
        rfl
      refine done_ (done_of HT_.out (by kernel_rfl)) ?_
      have hB3' : Below w.heap.size w w3 := ((HB2.out.trans (hB1.mono (by omega))).trans (hB2.mono (by omega))).trans (hB3.mono (by omega))
      cases hE : eqM (placedL x0) (placedL xi) with
      | true =>
        have HE := Lib.hid hE
        clear hE
        go_wp2
        go_roundg (ls.length + 1 - (i + 1))
        case measure => omega
        case rel =>
          refine ⟨i + 1, by go_num, by omega, by omega, Nat.le_refl _, hB3', ⟨fun q h1 h2 => ?_⟩⟩
          by_cases e : q = i
          · subst e; rw [HX0.out, HXi.out]; exact HE.out
          · exact HI.out q h1 (by omega)
      | false =>
        have hR : alikeL ls = false := by
          unfold alikeL
          rw [List.all_eq_false]
          exact ⟨i, List.mem_range.2 hlt, by rw [HX0.out, HXi.out, hE]; simp; omega⟩
        have HQ := Lib.hid hR
        clear hE hR
        go_wp2
        go_ret
        exact ⟨by first | (rw [HQ.out]; done) | (rw [HQ.out]; rfl), hB3'⟩
    · have hltz : ¬ ((i : Int) < (ls.length : Int)) := by omega
      have hR : alikeL ls = true := by
        unfold alikeL
        rw [List.all_eq_true]
        intro q hq
        have hq' := List.mem_range.1 hq
        by_cases e : q = 0
        · simp [e]
        · rw [HI.out q (by omega) (by omega)]; simp
      have HQ := Lib.hid hR
      clear hR
      go_wp2
      go_ret
      exact ⟨by first | (rw [HQ.out]; done) | (rw [HQ.out]; rfl), hB⟩

#print axioms alike
end Go.Proofs.Ytdkhaohjfclceaa.Rp

