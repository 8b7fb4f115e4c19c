/- maps.Keys over places, slices.Collect: what is collected are the map's keys, each once. -/
import Derived.Test.YtdkhaohjfclceaaRp2
import Derived.Shelf.Abstract
import Derived.Shelf.AbstractIn
import Derived.RangeFuncGives
import Derived.RangeFuncLeaves
import Derived.RangeFuncBox
import Derived.Maps.AppendAt
import Derived.TacticsInMore
import Derived.RegionIn
import Derived.LoopNIn
import Derived.LoopIn
import Derived.Sort.LoopGhostIn
import Derived.RangeFuncRecord
import Derived.RangeFuncIn
import Derived.RangeFuncNested
set_option linter.unusedVariables false
set_option linter.unusedSimpArgs false
namespace Go.Proofs.Ytdkhaohjfclceaa.Rp
open Go.RowKit Go.Proofs.Ytdkhaohjfclceaa.Mp Go.Proofs.Ytdkhaohjfclceaa.PRp Go.Proofs.YtdkhaohjfclceaaW.PrintWords

attribute [local go_sem] encP encK in
set_option maxRecDepth 100000 in
set_option maxHeartbeats 1000000 in
theorem keys1N (F : Fence) (n : Nat) (h63 : F.fn 63) (hro : F.round = none) (hn : 1 ≤ n) (l Bm b : Nat) (m : List (Pl × Kp)) (J Jx : List Pl → World → Prop)
    (hY : ∀ pre x W, J pre W → pre.length < m.length → YieldAt F (n - 1) Try.prog l #[encP x] W fun e W' => (e = .returned (.bool true) ∧ J (pre ++ [x]) W' ∧ KeepsWalks W W') ∨ (e = .returned (.bool false) ∧ Jx (pre ++ [x]) W'))
    (W : World) (hJ : AbidesFrom W.heap.size J) (hm : W.cell? ⟨Bm, 0, none⟩ = some (.map (some b))) (hown : MapV encP W b (vals encK m)) (h0 : J [] W) :
    CallsIn F n Try.prog 63 #[.func (.yield l) #[] #[], .pointer (some ⟨Bm, 0, none⟩)] W fun e W' => (∃ v, e = .returned v) ∧ ((∃ ss : List Pl, ss.Perm (m.map (·.1)) ∧ J ss W') ∨ ∃ pre, True ∧ Jx pre W') := by
  have hnd : (m.map (·.1)).Nodup := by have := hown.nodup; rwa [vals_keys] at this
  refine callsIn_of_wp Try.func63 rfl h63 ?_ hro
  simp only [Try.ntmps63, List.size_toArray, List.length_cons, List.length_nil, Nat.reduceAdd, Nat.reduceSub, Array.replicate_succ, Array.replicate_zero, List.push_toArray, List.append_toArray, List.nil_append, List.cons_append]
  gi_wp2_with (first
    | (gi_at_range; refine wpIn_range_map Try.underlying91 hown rfl _ rfl rfl ?_; intro w0 hW0 hg0 hs0 hs0')
    | gi_in)
  go_frame
  gi_loopg [6] m.length (fun k _ wr => ∃ (left : List (Pl × Kp)) (ss : List Pl), Aside0 (left.length = k) ∧ Walks encP wr W.heap.size b (vals encK m) (vals encK left) ∧ (ss ++ left.map (·.1)).Perm (m.map (·.1)) ∧ J ss wr ∧ W.heap.size ≤ wr.heap.size)
  case atStart =>
    exact ⟨m, [], ⟨rfl⟩, hW0, List.Perm.refl _, hJ [] W w0 none h0 hg0 (fun r e => by cases e), by omega⟩
  case round =>
    obtain ⟨left, ss, HL, hW, hP, hJs, hwr⟩ := hrel
    gi_wp2_with (first
      | (gi_at_next; refine wpIn_next_vals keyP.inj hW rfl _ rfl rfl (fun h0 => ?_) (fun p w1 hin hW1 hg1 hs1 hen => ?_))
      | gi_in)
    · have HE := Lib.hid h0; clear h0
      gi_wp2
      go_end0
      obtain rfl := HE.out
      exact ⟨⟨_, rfl⟩, .inl ⟨ss, by simpa using hP, hJs⟩⟩
    · have hs1' := hg1.size
      have hJ2 : J ss w1 := hJ ss wr w1 (some W.heap.size) hJs hg1 (fun r e => by cases e; exact ⟨Nat.le_refl _, hW.iter_walk⟩)
      have hJ3 : J ss (w1.alloc (.cells #[.string p.1.1, .int .i64 p.1.2] 30)) := hJ ss w1 _ none hJ2 (World.grownBy_alloc w1 _ none) (fun r e => by cases e)
      have hlen : ss.length < m.length := by
        have h1 := hP.length_eq
        have h2 : 0 < left.length := List.length_pos_of_mem hin
        simp at h1
        omega
      obtain ⟨fn, tmps, assign, body, hy, hR⟩ := hY ss p.1 _ hJ3 hlen
      simp only [encP] at hy
      have hlt := del_lt hin
      have hP2 := perm_step hnd hP hin
      clear hlen
      gi_wp2
      refine hR.mono ?_
      rintro e W3 (⟨rfl, hJ4, hk3⟩ | ⟨rfl, hJx⟩)
      · have hW3 := (hW1.alloc (.cells #[.string p.1.1, .int .i64 p.1.2] 30)).of_walks hk3
        have hsz := hk3.size
        gi_wp2
        gi_roundg (del p.1 left).length
        case measure => rw [← HL.out]; exact hlt
        case rel => exact ⟨del p.1 left, ss ++ [p.1], ⟨rfl⟩, hW3, hP2, hJ4, by simp at hsz; omega⟩
      · gi_wp2
        refine bodyPost_ret (results_none rfl _ _ _) rfl ?_
        exact ⟨⟨_, rfl⟩, .inr ⟨_, trivial, hJx⟩⟩

/-- maps.Keys(m) hands back a function value over the boxed map. -/
theorem keysIn (F : Fence) (n : Nat) (h40 : F.fn 40) (hro : F.round = none) (mb : Option Nat) (w : World) :
    CallsIn F n Try.prog 40 #[.map mb] w fun e w' => e = .returned (.func (.func 63) #[] #[.pointer (some ⟨w.heap.size, 0, none⟩)]) ∧ w' = w.alloc (.cells #[.map mb] 91) := by
  refine callsIn_of_wp Try.func40 rfl h40 ?_ hro
  simp only [Try.ntmps40, List.size_toArray, List.length_cons, List.length_nil, Nat.reduceAdd, Nat.reduceSub, Array.replicate_succ, Array.replicate_zero, List.push_toArray, List.append_toArray, List.nil_append, List.cons_append]
  gi_wp2
  go_ret
  exact ⟨rfl, rfl⟩

theorem keysStops (F : Fence) (n : Nat) (h63 : F.fn 63) (hro : F.round = none) (hn : 1 ≤ n) (Bm b : Nat) (m : List (Pl × Kp)) (w : World) (hBm : Bm < w.heap.size) (hm : w.cell? ⟨Bm, 0, none⟩ = some (.map (some b))) (hown : MapV encP w b (vals encK m)) :
    SeqStopsK F n Try.prog 63 #[.pointer (some ⟨Bm, 0, none⟩)] (fun x : Pl => #[encP x]) KeepsWalks (fun ss => ss.Perm (m.map (·.1))) (fun _ => True) m.length w := fun l J Jx W hW hJ hJx hY h0 =>
  keys1N F n h63 hro hn l Bm b m J Jx hY W hJ ((hW.cell (p := ⟨Bm, 0, none⟩) hBm).trans hm) (hown.below hW hown.lt) h0

def cellsP (l : List Pl) : List Value := l.flatMap fun p => [.string p.1, .int .i64 p.2]
theorem cellsP_snoc (l : List Pl) (p : Pl) : cellsP (l ++ [p]) = cellsP l ++ [.string p.1, .int .i64 p.2] := by simp [cellsP]
theorem cell_two_new (w : World) (x y : Value) (t : TypeId) : ∀ j u, [x, y][j]? = some u → (w.alloc (.cells #[x, y] t)).cell? ((⟨w.heap.size, 0, none⟩ : Addr).add j) = some u := by
  intro j u h
  have hb : (w.alloc (.cells #[x, y] t)).heap[w.heap.size]? = some (.cells #[x, y] t) := World.alloc_heap_new w _
  rcases j with _ | _ | j
  · simp at h; subst h; show World.cell? _ ⟨_, 0, none⟩ = _; simp only [World.cell?, hb]; rfl
  · simp at h; subst h; show World.cell? _ ⟨_, 1, none⟩ = _; simp only [World.cell?, hb]; rfl
  · simp at h
theorem ownsRow_slice {W : World} {base : Nat} {e : TypeId} {size : Nat} {v : Value} {k : Nat} {xs : List Value} (h : W.ownsRow base e size v k xs) : ∃ g l c, v = .slice g l c := by
  rcases h.2 with ⟨rfl, _⟩ | ⟨g, cap, _, rfl, _⟩
  · exact ⟨_, _, _, rfl⟩
  · exact ⟨_, _, _, rfl⟩
theorem two_one (s : ByteArray) (i : Int) : ∀ u ∈ [Value.string s, .int .i64 i], u.oneCell' = true := by
  intro u hu
  simp at hu
  rcases hu with rfl | rfl <;> rfl
theorem info30 : (Try.prog.info? 30).map (fun i => (i.zero, i.size, i.bytes)) = some (some (.agg #[(.string ⟨#[]⟩), (.int .i64 0)]), 2, 24) := by kernel_rfl

attribute [local go_sem] encP Oper.semAt_some in
set_option maxRecDepth 100000 in
set_option maxHeartbeats 4000000 in
theorem appendSeq (F : Fence) (n : Nat) (h83 : F.fn 83) (h63 : F.fn 63) (hro : F.round = none) (hn : 3 ≤ n) (Bm b : Nat) (m : List (Pl × Kp)) (w : World) (hBm : Bm < w.heap.size) (hm : w.cell? ⟨Bm, 0, none⟩ = some (.map (some b))) (hown : MapV encP w b (vals encK m)) (hb : m.length * 24 ≤ 140737488355328) :
    CallsIn F n Try.prog 83 #[.slice none 0 0, .func (.func 63) #[] #[.pointer (some ⟨Bm, 0, none⟩)]] w fun e w' => ∃ (v : Value) (ss : List Pl), e = .returned v ∧ ss.Perm (m.map (·.1)) ∧ w'.ownsRow w.heap.size 30 2 v ss.length (cellsP ss) ∧ Below w.heap.size w w' := by
  have h1 : 1 ≤ n := by omega
  obtain ⟨i0, hi, hz0, hz1, hz2⟩ := info_parts info30
  refine callsIn_of_wp_marks Try.func83 rfl h83 ?_ hro
  simp only [Try.ntmps83, List.size_toArray, List.length_cons, List.length_nil, Nat.reduceAdd, Nat.reduceSub, Array.replicate_succ, Array.replicate_zero, List.push_toArray, List.append_toArray, List.nil_append, List.cons_append]
  gi_wp2
  have bV := Boxed.new w 36 (.slice none 0 0)
  have hB0 : Below w.heap.size w (w.alloc (.cells #[.slice none 0 0] 36)) := (Below.refl _ w).alloc (Nat.le_refl _) _
  have hsz : (w.alloc (.cells #[.slice none 0 0] 36)).heap.size = w.heap.size + 1 := by simp
  have hown0 := hown.alloc (.cells #[.slice none 0 0] 36)
  have hm0 := pw_cell_below (((Below.refl _ w).alloc (Nat.le_refl _) (.cells #[.slice none 0 0] 36))) hm
  obtain ⟨W0, hW0⟩ : ∃ W0, w.alloc (.cells #[.slice none 0 0] 36) = W0 := ⟨_, rfl⟩
  rw [hW0] at bV hB0 hsz hown0 hm0 ⊢
  clear hW0
  refine wpIn_rangeFunc_ownH hro h1 (gf := 63) (lb := #[.pointer (some ⟨Bm, 0, none⟩)]) rfl h63 (enters_of Try.func63 (by kernel_rfl) rfl)
    (keysStops F (n - 1) h63 hro (by omega) Bm b m W0 (by omega) hm0 hown0) walksK_t (fun W l o o' hl h _ hw => KeepsWalks.putObj _ h hw) (Below.refl _ _) (fun _ => rfl)
    (fun pre W => (∃ v, Boxed W w.heap.size 36 v ∧ W.ownsRow w.heap.size 30 2 v pre.length (cellsP pre) ∧ True) ∧ Below w.heap.size w W)
    (fun _ _ _ => False)
    (OwnFrom.and (Own.from (holdsRow_own w.heap.size w.heap.size 36 30 2 (fun pre : List Pl => pre.length) cellsP (fun _ _ => True)) _) (ownFrom_below (Nat.le_refl _) (by omega)))
    (fun _ _ _ _ _ hs _ _ => hs)
    ⟨⟨_, bV, World.ownsRow_nil _ _ _ _, trivial⟩, hB0⟩
    (fun x a' W => ∃ Bx, w.heap.size < Bx ∧ W.heap[Bx]? = some (.cells #[.string x.1, .int .i64 x.2] 30 (0, 0)) ∧ a' = { tmps := #[.slice none 0 0, .func (.func 63) #[] #[.pointer (some ⟨Bm, 0, none⟩)], .pointer (some ⟨w.heap.size, 0, none⟩), undef, .slice none 0 0, .pointer (some ⟨Bx, 0, none⟩), .func (.func 63) #[] #[.pointer (some ⟨Bm, 0, none⟩)], .agg #[.string x.1, .int .i64 x.2], undef, undef, undef, undef, undef], defers := [] })
    (fun x a' _ X Y row hs hg hr => by
      obtain ⟨Bx, h1, h2, h3⟩ := hs
      refine ⟨Bx, h1, (hg.block Bx (Array.getElem?_eq_some_iff.1 h2).1 (fun e => ?_)).trans h2, h3⟩
      obtain ⟨_, o, ho, hc⟩ := hr Bx e.symm
      rw [h2] at ho; cases ho; cases hc)
    ?assign ?body ?done ?stop
  case assign =>
    rintro l pre x W K ⟨⟨v, bV1, hrow, -⟩, hB1⟩ hK
    gi_wp2
    exact hK _ _ ((KeepsOthers.alloc _ _).from _) (KeepsWalks.alloc _ _) ⟨⟨v, bV1.alloc _, hrow.alloc _, trivial⟩, hB1.alloc hB1.size _⟩ ⟨W.heap.size, bV1.lt, World.alloc_heap_new W _, rfl⟩
  case body =>
    rintro l pre x a' W hl ⟨r, hr⟩ ⟨⟨v, bV1, hrow, -⟩, hB1⟩ ⟨Bx, hBx, bX, rfl⟩ hlt
    have h1' : 1 ≤ n - 1 - 1 := by omega
    obtain ⟨g0, l0, c0, rfl⟩ := ownsRow_slice hrow
    have cV := bV1.cell
    have cX0 : W.cell? ⟨Bx, 0, none⟩ = some (.string x.1) := by simp [World.cell?, bX]
    have cX1 : W.cell? ⟨Bx, 1, none⟩ = some (.int .i64 x.2) := by simp [World.cell?, bX]
    have hsW := hB1.size
    have hml : pre.length + 1 ≤ maxLen := by unfold maxLen; omega
    gi_wp2_with (first
      | (gi_at_builtin; refine wpListIn_append_own _ rfl _ _ 36 rfl w.heap.size 30 i0 _ 2 24 Try.underlying36 hi hz0 hz1 hz2 rfl (by decide) _ _ _ rfl (hrow.alloc _) ⟨W.heap.size, 0, none⟩ 1 1 [.string x.1, .int .i64 x.2] rfl rfl (cell_two_new _ _ _ _) (two_one _ _) hml (by omega) (by simp; omega) ?_
         intro v' w3 hown' hg3 hnil3
         obtain ⟨hv3, hv4, hown4, hk4, hb4⟩ := Boxed.appended bV1 (by decide) hrow hsW (Nat.le_refl _) hown' hg3
         have cV3 := hv3.cell
         have fV3 := hv3.frozen
         obtain ⟨g', cap', rfl⟩ := ownsRow_succ hown'
         go_frame)
      | gi_in)
    exact ⟨hk4.from _, hk4.walks, ⟨_, hv4, by simpa [cellsP_snoc] using hown4, trivial⟩, hB1.trans hb4⟩
  case done =>
    rintro D zs W hD hS ⟨⟨v, bV1, hrow, -⟩, hB1⟩ hK
    obtain ⟨g0, l0, c0, rfl⟩ := ownsRow_slice hrow
    have cV := bV1.cell
    gi_wp2
    refine ⟨by simp, .inl ⟨_, _, rfl, run_takeDeferred hK, ?_⟩⟩
    exact ⟨_, results_tmp rfl _ _ _, _, zs, rfl, hS, ownsRow_putObj hrow _ hK rfl, hB1.trans (belowK_b (w := w) (Nat.le_refl _) W D _ _ (by omega) hK rfl rfl)⟩
  case stop => exact fun _ _ _ _ _ _ h => h.elim

#print axioms keys1N
end Go.Proofs.Ytdkhaohjfclceaa.Rp
