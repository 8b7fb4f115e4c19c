/- repair.Diff. -/
import Derived.Test.YtdkhaohjfclceaaRp5
set_option linter.unusedVariables false
set_option linter.unusedSimpArgs false
namespace Go.Proofs.Ytdkhaohjfclceaa.Rp
open Go.RowKit Go.Proofs.Ytdkhaohjfclceaa.Mp Go.Proofs.Ytdkhaohjfclceaa.PRp Go.Proofs.YtdkhaohjfclceaaW.PrintWords

def diffM (a b : List S81) : List (Pl × Kp) := (placedL b).filter fun p => !same1 (placedL a) p.1 p.2
def diffL (a b : List S81) : List Pl := sortP ((diffM a b).map (·.1))

theorem ownsRow_base {W : World} {base base' : Nat} {e : TypeId} {size : Nat} {v : Value} {k : Nat} {xs : List Value} (h : W.ownsRow base e size v k xs) (hb : base' ≤ base) : W.ownsRow base' e size v k xs := by
  refine ⟨h.1, ?_⟩
  rcases h.2 with hn | ⟨g, cap, cur, hv, hbg, rest⟩
  · exact .inl hn
  · exact .inr ⟨g, cap, cur, hv, Nat.le_trans hb hbg, rest⟩
theorem put_len {κ ν : Type} [DecidableEq κ] (k : κ) (v : ν) : ∀ m : List (κ × ν), (put k v m).length ≤ m.length + 1
  | [] => by simp [put]
  | p :: l => by
    have := put_len k v l
    simp only [put]
    split <;> simp <;> omega
theorem seen1_len (m : List (Pl × Kp)) (x : S81) : (seen1 m x).length ≤ m.length + 1 := by
  unfold seen1
  split
  · rename_i h
    exact put_len _ _ _
  · omega
theorem placedL_len (l : List S81) : (placedL l).length ≤ l.length := by
  suffices h : ∀ (l : List S81) (m : List (Pl × Kp)), (l.foldl seen1 m).length ≤ m.length + l.length by simpa [placedL] using h l []
  intro l
  induction l with
  | nil => intro m; simp
  | cons x l ih =>
    intro m
    have h1 := ih (seen1 m x)
    have h2 := seen1_len m x
    simp only [List.foldl_cons, List.length_cons]
    omega
theorem diffM_len (a b : List S81) : (diffM a b).length ≤ b.length := Nat.le_trans (List.length_filter_le _ _) (placedL_len b)

set_option maxRecDepth 100000 in
set_option maxHeartbeats 2000000 in
theorem diff (A0 A1 : Option Addr) (c0 c1 : Nat) (l0 l1 : List S81) (w : World) (hr0 : Kd.C k81 w A0 l0.length l0) (hc0 : l0.length ≤ c0) (hr1 : Kd.C k81 w A1 l1.length l1) (hc1 : l1.length ≤ c1) (hb : l1.length ≤ 4294967296) :
    Calls Try.prog 11 #[.slice A0 l0.length c0, .slice A1 l1.length c1] w fun e w' => ∃ v, e = .returned v ∧ w'.ownsRow w.heap.size 30 2 v (diffL l0 l1).length (cellsP (diffL l0 l1)) ∧ Below w.heap.size w w' := by
  have HP0 := Lib.hid (placed A0 c0 l0 w hr0 hc0)
  have HP1 := Lib.hid (fun w1 (hB : Below w.heap.size w w1) => placed A1 c1 l1 w1 (Kd.C_below hr1 hB) hc1)
  have HL := Lib.hid hb
  clear hr0 hr1 hb hc0 hc1
  go_enter Try.func11, Try.ntmps11
  go_wp2_with (first
    | (go_at_call 36; with_reducible refine HP0.out.mono ?_; rintro e w1 ⟨rfl, hM1, hB1⟩; have hs1 := hB1.size)
    | (go_at_call 36; with_reducible refine (HP1.out w1 hB1).mono ?_; rintro e w2 ⟨rfl, hM2, hB2⟩; have hs2 := hB2.size))
  have hlt1 := hM1.lt
  have hne : w.heap.size ≠ w1.heap.size := by omega
  have hbx : (w2.alloc (.cells #[.map (some w.heap.size)] 91)).cell? ⟨w2.heap.size, 0, none⟩ = some (.map (some w.heap.size)) := by go_simp
  have HD := Lib.hid (deleteFunc w2.heap.size w.heap.size w1.heap.size (placedL l0) (placedL l1) _ hbx ((hM1.below hB2 hlt1).alloc _) (hM2.alloc _) hne)
  have hB2' : Below w.heap.size w (w2.alloc (.cells #[.map (some w.heap.size)] 91)) := (hB1.trans (hB2.mono hs1)).alloc (by omega) _
  have HB2 := Lib.hid hB2'
  have hsz : (w2.alloc (.cells #[.map (some w.heap.size)] 91)).heap.size = w2.heap.size + 1 := by simp
  have HZ := Lib.hid hsz
  clear hbx hB2' hM1 hM2 hsz
  go_wp2_with (first
    | (go_at_call 37; with_reducible refine HD.out.mono ?_; rintro e w3 ⟨rfl, hM3, hg3⟩; have hs3 := hg3.size)
    | (go_at_call 40; refine (callsIn_wide.1 (keysIn Fence.wide 0 trivial rfl _ _)).mono ?_; rintro e w4 ⟨rfl, rfl⟩)
    | (go_at_call 39; refine (sortedFunc w3.heap.size w1.heap.size (diffM l0 l1) _ (by simp) (by go_simp) (hM3.alloc _) (by have := diffM_len l0 l1; have := HL.out; omega)).mono ?_; rintro e w5 ⟨v, rfl, hrow5, hB5⟩; obtain ⟨g5, n5, c5, rfl⟩ := ownsRow_slice hrow5))
  go_ret
  have hsz := HZ.out
  have hb5 : w.heap.size ≤ (w3.alloc (.cells #[.map (some w1.heap.size)] 91)).heap.size := by simp; omega
  have hlen : (diffL l0 l1).length = (diffM l0 l1).length := by simp [diffL, sortP]
  refine ⟨_, rfl, ?_, ?_⟩
  · rw [hlen]
    exact ownsRow_base hrow5 hb5
  · exact ((HB2.out.grown hg3 (by omega) (fun k hk => by cases hk; exact hs1)).alloc (by omega) _).trans (hB5.mono hb5)

#print axioms diff
end Go.Proofs.Ytdkhaohjfclceaa.Rp
