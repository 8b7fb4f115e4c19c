/- maps.DeleteFunc with repair.Diff's closure. -/
import Derived.Test.YtdkhaohjfclceaaRp1
import Derived.Deep.LoopGhost
set_option linter.unusedVariables false
set_option linter.unusedSimpArgs false
namespace Go.Proofs.Ytdkhaohjfclceaa.Rp
open Go.RowKit Go.Proofs.Ytdkhaohjfclceaa.Mp Go.Proofs.Ytdkhaohjfclceaa.PRp Go.Proofs.YtdkhaohjfclceaaW.PrintWords

def same1 (m : List (Pl × Kp)) (p : Pl) (k : Kp) : Bool :=
  match al p m with
  | none => false
  | some v => v.1 == k.1 && (v.2 == k.2)

attribute [local go_sem high] eqA93 in
set_option maxHeartbeats 1000000 in
theorem diff1 (s : ByteArray) (i c u : Int) (bx b : Nat) (m : List (Pl × Kp)) (w : World) (hbx : w.cell? ⟨bx, 0, none⟩ = some (.map (some b))) (hM : MapV encP w b (vals encK m)) :
    Calls Try.prog 38 #[.agg #[.string s, .int .i64 i], .agg #[.int .i64 c, .int .u32 u], .pointer (some ⟨bx, 0, none⟩)] w fun e w' => e = .returned (.bool (same1 m (s, i) (c, u))) ∧ Below w.heap.size w w' := by
  have hxl : bx < w.heap.size := World.block_lt_of_cell? w _ hbx
  cases hal : al (s, i) m with
  | none =>
    have hal' : al (s, i) (vals encK m) = none := by rw [vals_al, hal]; rfl
    have hs : same1 m (s, i) (c, u) = false := by simp only [same1, hal]
    rw [hs]
    have H1 := Lib.hid hal'; clear hal' hal hs
    go_enter Try.func38, Try.ntmps38
    go_wp2_with (at_lookup; refine wp_lookup_ok_none keyP Try.underlying91 (zero93 _) ((hM.alloc _).alloc _) (s, i) H1.out rfl _ _ rfl rfl rfl ?_)
    go_ret
    exact ⟨rfl, (((Below.refl _ _).alloc (Nat.le_refl _) _).alloc (by simp) _).alloc (by simp; omega) _⟩
  | some v =>
    obtain ⟨vc, vs⟩ := v
    have hal' : al (s, i) (vals encK m) = some (.agg #[.int .i64 vc, .int .u32 vs]) := by rw [vals_al, hal]; rfl
    have hs : same1 m (s, i) (c, u) = (vc == c && (vs == u)) := by simp only [same1, hal]
    rw [hs]
    have H1 := Lib.hid hal'; clear hal' hal hs
    go_enter Try.func38, Try.ntmps38
    go_wp2_with (at_lookup; refine wp_lookup_ok_some keyP Try.underlying91 (zero93 _) ((hM.alloc _).alloc _) (s, i) _ H1.out rfl _ _ rfl rfl rfl ?_)
    go_ret
    exact ⟨rfl, (((Below.refl _ _).alloc (Nat.le_refl _) _).alloc (by simp) _).alloc (by simp; omega) _⟩


def keysL (l : List (Pl × Kp)) : List Pl := l.map (·.1)
/-- What is kept of m while 'left' is still to come. -/
def keptL (m1 m2 left : List (Pl × Kp)) : List (Pl × Kp) := m2.filter fun p => decide (p.1 ∈ keysL left) || !same1 m1 p.1 p.2
theorem keptL_start (m1 m2 : List (Pl × Kp)) : keptL m1 m2 m2 = m2 := by
  unfold keptL
  rw [List.filter_eq_self]
  intro p hp
  have : p.1 ∈ keysL m2 := List.mem_map.2 ⟨p, hp, rfl⟩
  simp [this]
theorem keptL_end (m1 m2 : List (Pl × Kp)) : keptL m1 m2 [] = m2.filter fun p => !same1 m1 p.1 p.2 := by simp [keptL, keysL]
theorem eq_of_key {m : List (Pl × Kp)} (hn : (m.map (·.1)).Nodup) {p q : Pl × Kp} (hp : p ∈ m) (hq : q ∈ m) (h : p.1 = q.1) : p = q := by
  have h1 := al_of_mem hn (k := p.1) (v := p.2) hp
  have h2 := al_of_mem hn (k := q.1) (v := q.2) hq
  rw [h, h2] at h1
  exact Prod.ext h (Option.some.inj h1).symm
theorem keysL_del (k q : Pl) (l : List (Pl × Kp)) : q ∈ keysL (del k l) ↔ q ∈ keysL l ∧ q ≠ k := by
  simp only [keysL, del, List.mem_map, List.mem_filter]
  constructor
  · rintro ⟨x, ⟨hx, hne⟩, hxe⟩
    exact ⟨⟨x, hx, hxe⟩, by rw [← hxe]; simpa using hne⟩
  · rintro ⟨⟨x, hx, hxe⟩, hne⟩
    exact ⟨x, ⟨hx, by simpa [hxe] using hne⟩, hxe⟩
theorem keptL_step {m1 m2 left : List (Pl × Kp)} (hn : (m2.map (·.1)).Nodup) (hs : left.Sublist m2) {p : Pl × Kp} (hp : p ∈ left) :
    keptL m1 m2 (del p.1 left) = if same1 m1 p.1 p.2 then del p.1 (keptL m1 m2 left) else keptL m1 m2 left := by
  have hmem : ∀ q : Pl × Kp, decide (q.1 ∈ keysL (del p.1 left)) = (decide (q.1 ∈ keysL left) && !decide (q.1 = p.1)) := by
    intro q
    have h := keysL_del p.1 q.1 left
    by_cases h1 : q.1 ∈ keysL (del p.1 left)
    · have h2 := h.1 h1
      simp [h1, h2.1, h2.2]
    · have h2 := fun x => h1 (h.2 x)
      by_cases h3 : q.1 ∈ keysL left
      · have h4 : q.1 = p.1 := Classical.byContradiction fun e => h2 ⟨h3, e⟩
        rw [decide_eq_false h1, decide_eq_true h4, Bool.not_true, Bool.and_false]
      · simp [h1, h3]
  have hpm : p ∈ m2 := hs.subset hp
  have hpl : p.1 ∈ keysL left := List.mem_map.2 ⟨p, hp, rfl⟩
  split
  · rename_i hsame
    unfold keptL del
    rw [List.filter_filter]
    apply List.filter_congr
    intro q hq
    have := hmem q
    unfold del at this
    rw [this]
    by_cases e : q.1 = p.1
    · have := eq_of_key hn hq hpm e
      subst this
      simp [hsame]
    · simp [e]
  · rename_i hsame
    unfold keptL
    apply List.filter_congr
    intro q hq
    rw [hmem q]
    by_cases e : q.1 = p.1
    · have := eq_of_key hn hq hpm e
      subst this
      simp [hsame]
    · simp [e]
theorem del_lt {left : List (Pl × Kp)} {p : Pl × Kp} (hp : p ∈ left) : (del p.1 left).length < left.length := by
  unfold del
  have h := List.length_filter_lt_length_iff_exists (p := fun q : Pl × Kp => !decide (q.1 = p.1)) (l := left)
  exact h.2 ⟨p, hp, by simp⟩

attribute [local go_sem] encP encK in
set_option maxHeartbeats 2000000 in
theorem deleteFunc (bx b1 b2 : Nat) (m1 m2 : List (Pl × Kp)) (w : World) (hbx : w.cell? ⟨bx, 0, none⟩ = some (.map (some b1))) (hM1 : MapV encP w b1 (vals encK m1)) (hM2 : MapV encP w b2 (vals encK m2)) (hne : b1 ≠ b2) :
    Calls Try.prog 37 #[.map (some b2), .func (.func 38) #[] #[.pointer (some ⟨bx, 0, none⟩)]] w fun e w' => e = .returned (.tuple #[]) ∧ MapV encP w' b2 (vals encK (m2.filter fun p => !same1 m1 p.1 p.2)) ∧ w.grownBy w' (some b2) := by
  have hn2 : (m2.map (·.1)).Nodup := by have := hM2.nodup; rwa [vals_keys] at this
  have hb2 := hM2.lt
  have hb1 := hM1.lt
  have hbxl : bx < w.heap.size := World.block_lt_of_cell? w _ hbx
  have hbxb : bx ≠ b2 := by
    rintro rfl
    obtain ⟨es, clock, hb, _⟩ := hM2
    simp [World.cell?, hb] at hbx
  go_enter Try.func37, Try.ntmps37
  go_wp2_with (at_range; refine wp_range_map Try.underlying91 hM2 rfl _ rfl rfl ?_; intro w0 hW0 hg0 hs0 hs0')
  go_frame
  go_loopg [8] m2.length (fun k v wr => ∃ left : List (Pl × Kp), Aside0 (left.length = k) ∧ left.Sublist m2 ∧ Walks encP wr w.heap.size b2 (vals encK (keptL m1 m2 left)) (vals encK left) ∧ w.grownBy wr (some b2))
  case atStart => exact ⟨m2, ⟨rfl⟩, List.Sublist.refl _, by rw [keptL_start]; exact hW0, ⟨hg0.os, hg0.tape, hg0.output, hg0.size, fun k hk _ => hg0.block k hk (by simp)⟩⟩
  case round =>
    obtain ⟨left, HL, hsub, hW, hg⟩ := hrel
    have hgs := hg.size
    have hwr : w.heap.size < wr.heap.size := hW.lt
    go_wp2_with (at_next; refine wp_next_vals keyP.inj hW rfl _ rfl rfl (fun h0 => ?_) (fun p w1 hin hW1 hg1 hs1 hen => ?_))
    · have HE := Lib.hid h0; clear h0
      go_wp2
      go_end0
      obtain rfl := HE.out
      rw [keptL_end] at hW
      exact ⟨rfl, hW.map, hg⟩
    · have hs1' := hg1.size
      have hgw1 : w.grownBy w1 (some b2) := ⟨hg1.os.trans hg.os, hg1.tape.trans hg.tape, hg1.output.trans hg.output, by omega, fun i hi hne => (hg1.block i (by omega) (fun e => by cases e; omega)).trans (hg.block i hi hne)⟩
      have hlt := del_lt hin
      have hstep := keptL_step (m1 := m1) hn2 hsub hin
      have hsub1 : (del p.1 left).Sublist m2 := List.filter_sublist.trans hsub
      have hbx1 : w1.cell? ⟨bx, 0, none⟩ = some (.map (some b1)) := (World.cell?_of_block (a := ⟨bx, 0, none⟩) (hgw1.block bx hbxl (fun e => hbxb (by cases e; rfl)))).trans hbx
      have hM11 : MapV encP w1 b1 (vals encK m1) := hM1.grown hgw1 (fun e => hne (by cases e; rfl))
      have hw1s : w.heap.size ≤ w1.heap.size := by omega
      have hcell : ∀ o1 o2, ((w1.alloc o1).alloc o2).cell? ⟨bx, 0, none⟩ = some (.map (some b1)) := fun o1 o2 => pw_cell_below (((Below.refl _ w1).alloc (Nat.le_refl _) o1).alloc (by simp) o2) hbx1
      have hkn : p.1 ∉ (vals encK (del p.1 left)).map (·.1) := by
        rw [vals_keys]
        intro h
        exact ((keysL_del p.1 p.1 left).1 h).2 rfl
      cases hsm : same1 m1 p.1 p.2 with
      | true =>
        rw [hsm, if_pos rfl] at hstep
        have HS := Lib.hid hstep; have HM := Lib.hid hsm; clear hstep hsm
        go_wp2_with (first
          | (go_at_call 38; refine (diff1 p.1.1 p.1.2 p.2.1 p.2.2 bx b1 m1 _ (hcell _ _) ((hM11.alloc _).alloc _)).mono ?_; rintro e w2 ⟨he, hb2'⟩; rw [show same1 m1 (p.1.1, p.1.2) (p.2.1, p.2.2) = true from HM.out] at he; subst he; have hc0 : w2.cell? ⟨w1.heap.size, 0, none⟩ = some (.string p.1.1) := pw_cell_below hb2' (by go_simp); have hc1 : w2.cell? ⟨w1.heap.size, 1, none⟩ = some (.int .i64 p.1.2) := pw_cell_below hb2' (by go_simp); have hW2 := ((hW1.alloc (.cells #[.string p.1.1, .int .i64 p.1.2] 30)).alloc (.cells #[.int .i64 p.2.1, .int .u32 p.2.2] 93)).below hb2' (by simp; omega) (by simp; omega); have hg2 := hb2'.size; have hgw2 : w.grownBy w2 (some b2) := ⟨hb2'.os.trans hgw1.os, hb2'.tape.trans hgw1.tape, hb2'.output.trans hgw1.output, by simp at hg2; omega, fun i hi hne => (hb2'.block i (by simp; omega)).trans ((Below.heap_alloc _ _ i (by simp; omega)).trans ((Below.heap_alloc _ _ i (by omega)).trans (hgw1.block i hi hne)))⟩)
          | (at_delete; refine wp_delete_walks keyP Try.underlying91 hW2 p.1 hkn rfl _ _ 30 rfl rfl rfl ?_; intro w3 hW3 hg3 hs3; go_frame))
        go_roundg (del p.1 left).length
        case measure => rw [← HL.out]; exact hlt
        case rel =>
          refine ⟨del p.1 left, ⟨rfl⟩, hsub1, ?_, World.grownBy.trans hgw2 hg3⟩
          rw [HS.out, ← vals_del]
          exact hW3
      | false =>
        rw [hsm, if_neg (by simp)] at hstep
        have HS := Lib.hid hstep; have HM := Lib.hid hsm; clear hstep hsm
        go_wp2_with (go_at_call 38; refine (diff1 p.1.1 p.1.2 p.2.1 p.2.2 bx b1 m1 _ (hcell _ _) ((hM11.alloc _).alloc _)).mono ?_; rintro e w2 ⟨he, hb2'⟩; rw [show same1 m1 (p.1.1, p.1.2) (p.2.1, p.2.2) = false from HM.out] at he; subst he; have hc0 : w2.cell? ⟨w1.heap.size, 0, none⟩ = some (.string p.1.1) := pw_cell_below hb2' (by go_simp); have hc1 : w2.cell? ⟨w1.heap.size, 1, none⟩ = some (.int .i64 p.1.2) := pw_cell_below hb2' (by go_simp); have hW2 := ((hW1.alloc (.cells #[.string p.1.1, .int .i64 p.1.2] 30)).alloc (.cells #[.int .i64 p.2.1, .int .u32 p.2.2] 93)).below hb2' (by simp; omega) (by simp; omega); have hg2 := hb2'.size; have hgw2 : w.grownBy w2 (some b2) := ⟨hb2'.os.trans hgw1.os, hb2'.tape.trans hgw1.tape, hb2'.output.trans hgw1.output, by simp at hg2; omega, fun i hi hne => (hb2'.block i (by simp; omega)).trans ((Below.heap_alloc _ _ i (by simp; omega)).trans ((Below.heap_alloc _ _ i (by omega)).trans (hgw1.block i hi hne)))⟩)
        go_roundg (del p.1 left).length
        case measure => rw [← HL.out]; exact hlt
        case rel =>
          refine ⟨del p.1 left, ⟨rfl⟩, hsub1, ?_, hgw2⟩
          rw [HS.out]
          exact hW2

#print axioms deleteFunc
end Go.Proofs.Ytdkhaohjfclceaa.Rp
