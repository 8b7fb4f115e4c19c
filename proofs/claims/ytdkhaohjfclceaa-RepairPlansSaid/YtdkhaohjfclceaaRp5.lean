/- slices.SortFunc over a row of places that the caller owns; slices.Collect, slices.SortedFunc; repair.Diff. -/
import Derived.Test.YtdkhaohjfclceaaRp3
import Derived.Test.YtdkhaohjfclceaaRp4
import Derived.Test.YtdkhaohjfclceaaSh
import Derived.Sort.Walk0
set_option linter.unusedVariables false
set_option linter.unusedSimpArgs false
namespace Go.Proofs.Ytdkhaohjfclceaa.Rp
open Go.RowKit Go.Sort Go.Proofs.Ytdkhaohjfclceaa.Mp Go.Proofs.Ytdkhaohjfclceaa.PRp Go.Proofs.YtdkhaohjfclceaaW.PrintWords

def encPL (p : Pl) : List Value := [.string p.1, .int .i64 p.2]
def ltP (p q : Pl) : Bool := decide (p.2 < q.2) || (decide (p.2 = q.2) && decide (p.1.toList < q.1.toList))
theorem ltOf_ordP (p q : Pl) : ltOf ordP p q = ltP p q := by
  unfold ltOf ordP orI cmpI cmpS ltP
  rw [bytesLess_eq]
  by_cases h1 : p.2 < q.2
  · simp [h1]
  · by_cases h2 : q.2 < p.2
    · have : p.2 ≠ q.2 := by omega
      simp [h1, h2, this]
    · have h3 : p.2 = q.2 := by omega
      simp only [h1, h2, if_false, if_true, h3, decide_true, Bool.true_and, decide_false, Bool.false_or, Int.lt_irrefl]
      by_cases h4 : p.1.toList < q.1.toList
      · simp [h4]
      · by_cases h5 : p.1.toList = q.1.toList
        · simp [h5, List.lt_irrefl]
        · simp [h4, h5]
theorem swoP : SWO ltP where
  irrefl x := by simp [ltP, List.lt_irrefl]
  trans x y z h1 h2 := by
    simp only [ltP, Bool.or_eq_true, Bool.and_eq_true, decide_eq_true_eq] at *
    rcases h1 with h1 | ⟨h1, h1'⟩ <;> rcases h2 with h2 | ⟨h2, h2'⟩
    · exact .inl (by omega)
    · exact .inl (by omega)
    · exact .inl (by omega)
    · exact .inr ⟨by omega, List.lt_trans h1' h2'⟩
  ntrans x y z h1 h2 := by
    simp only [ltP, Bool.or_eq_false_iff, Bool.and_eq_false_imp, decide_eq_false_iff_not, decide_eq_true_eq, List.not_lt] at *
    refine ⟨by omega, fun h => ?_⟩
    exact List.le_trans (h2.2 (by omega)) (h1.2 (by omega))
theorem ByteArray_ext_toList {a b : ByteArray} (h : a.toList = b.toList) : a = b := by
  have := toList_eq_iff a b
  rw [h] at this
  simpa using this.symm
theorem totP (x y : Pl) (h1 : ltP x y = false) (h2 : ltP y x = false) : x = y := by
  simp only [ltP, Bool.or_eq_false_iff, Bool.and_eq_false_imp, decide_eq_false_iff_not, decide_eq_true_eq, List.not_lt] at *
  have e : x.2 = y.2 := by omega
  have e2 : x.1.toList = y.1.toList := List.le_antisymm (h2.2 e.symm) (h1.2 e)
  exact Prod.ext (ByteArray_ext_toList e2) e
def sortP (l : List Pl) : List Pl := l.mergeSort fun x y => !ltP y x

theorem cellsP_length (l : List Pl) : (cellsP l).length = l.length * 2 := by
  induction l with
  | nil => rfl
  | cons p l ih => simp [cellsP] at ih ⊢; omega
theorem cellsP_cons (p : Pl) (l : List Pl) : cellsP (p :: l) = .string p.1 :: .int .i64 p.2 :: cellsP l := by simp [cellsP]
theorem cellsP_get : ∀ (l : List Pl) (t : Nat), t < l.length * 2 → (cellsP l)[t]? = some (encPL l.toArray[t / 2]!)[t % 2]!
  | [], t, h => by simp at h
  | p :: l, 0, _ => by simp [cellsP_cons, encPL]
  | p :: l, 1, _ => by simp [cellsP_cons, encPL]
  | p :: l, t + 2, h => by
    have ih := cellsP_get l t (by simp at h; omega)
    rw [cellsP_cons, show t + 2 = t + 1 + 1 from rfl, List.getElem?_cons_succ, List.getElem?_cons_succ, ih, show (t + 1 + 1) / 2 = t / 2 + 1 by omega, show (t + 1 + 1) % 2 = t % 2 by omega]
    congr 2
    simp

/-- An owned row of places, sorted. -/
theorem sortFunc (base : Nat) (v : Value) (ss : List Pl) (w : World) (hrow : w.ownsRow base 30 2 v ss.length (cellsP ss)) (hb : base ≤ w.heap.size) (hl : ss.length < 4611686018427387904) :
    Calls Try.prog 62 #[v, .func (.func 33) #[] #[]] w fun e w' => e = .returned (.tuple #[]) ∧ w'.ownsRow base 30 2 v ss.length (cellsP (sortP ss)) ∧ Below base w w' := by
  obtain ⟨hlen, hv⟩ := hrow
  rcases hv with ⟨rfl, h0⟩ | ⟨g, cap, cur, rfl, hbg, hg, hcap, hmax, hsz, htake⟩
  · obtain rfl : ss = [] := List.eq_nil_of_length_eq_zero h0
    refine (AnyF.slices_SortFunc_none Ytdkhaohjfclceaa.Sh.sortPlace none 0 _ w).mono ?_
    rintro e w' ⟨rfl, rfl⟩
    exact ⟨rfl, ⟨by simp [sortP, cellsP], .inl ⟨rfl, rfl⟩⟩, Below.refl _ _⟩
  · have hglt : g < w.heap.size := (Array.getElem?_eq_some_iff.1 hg).1
    have hflat : ∀ j, j < ss.length * 2 → cur[j]? = some (encPL ss.toArray[j / 2]!)[j % 2]! := by
      intro j hj
      rw [← cellsP_get ss j hj, ← htake, List.getElem?_take, if_pos hj]
      simp
    have hH : HoldsK encPL 2 w g 0 ss.toArray := by
      intro j hj
      rw [size_flatK, List.size_toArray] at hj
      rw [get_flatK _ _ _ _ (by simpa using hj)]
      refine ⟨?_, ?_⟩
      · simp only [World.cell?, hg, Nat.zero_add]
        exact hflat j hj
      · simp [World.frozen?, hg]
    have eg : ∀ args w, (callFunc 33 args).run Try.prog w = .ok (.enter 33 args) w := enters_of Try.func33 (by kernel_rfl) rfl
    have hO : SWO (ltOf ordP) := by rw [show ltOf ordP = ltP from funext fun x => funext fun y => ltOf_ordP x y]; exact swoP
    have hT : ∀ x y, (ltOf ordP) x y = false → (ltOf ordP) y x = false → x = y := by
      intro x y h1 h2
      rw [ltOf_ordP] at h1 h2
      exact totP x y h1 h2
    have hcmp : CmpLays Try.prog 33 #[] encPL 2 ordP g 0 ss.toArray.size w := fun _ _ _ _ x y => order x.1 y.1 x.2 y.2 _
    have hcon := AnyQ.slices_SortFunc_total Ytdkhaohjfclceaa.Sh.sortPlace 2 Try.isAgg30 Try.sizeOf30 encPL (fun _ => rfl) (fun x v hv => by simp [encPL] at hv; rcases hv with rfl | rfl <;> rfl) ordP hO 33 #[] g 0 cap ss.toArray w eg hcmp hH hglt (by simpa using hl) hT
    simp only [List.size_toArray] at hcon
    refine Calls.mono hcon ?_
    rintro e w' ⟨rfl, n, os, rfl⟩
    have hms : (ss.mergeSort fun x y => !ltOf ordP y x) = sortP ss := by unfold sortP; congr 1; funext x y; rw [ltOf_ordP]
    rw [hms]
    have hslen : (sortP ss).length = ss.length := by simp [sortP]
    have hH' := holdsK_sortWorldK_c encPL 2 w g 0 ss.toArray (sortP ss).toArray n os hH hglt (by simp [hslen])
    refine ⟨rfl, ⟨by rw [cellsP_length, hslen], .inr ?_⟩, ?_⟩
    · have hblk : (sortWorldK encPL 2 w g 0 n (sortP ss).toArray os).heap[g]? = some (.cells (putCells id 0 (flatK encPL 2 (sortP ss).toArray) cur) 30 (0, 0)) := by
        unfold sortWorldK
        rw [heap_grow_old _ _ (by unfold putRowK; rw [size_putRow]; exact hglt)]
        unfold putRowK putRow mapBlock
        show (w.heap.modify g _)[g]? = _
        rw [Array.getElem?_modify, if_pos rfl, hg]
        rfl
      refine ⟨g, cap, _, rfl, hbg, hblk, hcap, hmax, by simp [putCells, hsz], ?_⟩
      apply List.ext_getElem?
      intro t
      by_cases ht : t < ss.length * 2
      · rw [cellsP_get _ t (by rw [hslen]; exact ht), List.getElem?_take, if_pos ht]
        have h := (hH' t (by rw [size_flatK]; simpa [hslen] using ht)).1
        rw [get_flatK _ _ _ _ (by simpa [hslen] using ht)] at h
        simp only [World.cell?, hblk, Nat.zero_add] at h
        simpa using h
      · rw [List.getElem?_eq_none (by simp; omega), List.getElem?_eq_none (by rw [cellsP_length, hslen]; omega)]
    · refine ⟨rfl, rfl, rfl, size_sortWorldK_c encPL 2 w g 0 n _ os, fun k hk => ?_⟩
      unfold sortWorldK
      rw [heap_grow_old _ _ (by unfold putRowK; rw [size_putRow]; show k < w.heap.size; omega)]
      unfold putRowK putRow mapBlock
      show (w.heap.modify g _)[k]? = _
      rw [Array.getElem?_modify, if_neg (by omega)]

attribute [local go_sem] Oper.semAt_some in
set_option maxHeartbeats 1000000 in
/-- slices.Collect(maps.Keys(m)): the keys, each once. -/
theorem collect (F : Fence) (n : Nat) (h61 : F.fn 61) (h83 : F.fn 83) (h63 : F.fn 63) (hro : F.round = none) (hn : 4 ≤ n) (Bm b : Nat) (m : List (Pl × Kp)) (w : World) (hBm : Bm < w.heap.size) (hm : w.cell? ⟨Bm, 0, none⟩ = some (.map (some b))) (hown : MapV encP w b (vals encK m)) (hb : m.length * 24 ≤ 140737488355328) :
    CallsIn F n Try.prog 61 #[.func (.func 63) #[] #[.pointer (some ⟨Bm, 0, none⟩)]] w fun e w' => ∃ (v : Value) (ss : List Pl), e = .returned v ∧ ss.Perm (m.map (·.1)) ∧ w'.ownsRow w.heap.size 30 2 v ss.length (cellsP ss) ∧ Below w.heap.size w w' := by
  have h1 : 1 ≤ n := by omega
  refine callsIn_of_wp Try.func61 rfl h61 ?_ hro
  simp only [Try.ntmps61, List.size_toArray, List.length_cons, List.length_nil, Nat.reduceAdd, Nat.reduceSub, Array.replicate_succ, Array.replicate_zero, List.push_toArray, List.append_toArray, List.nil_append, List.cons_append]
  gi_wp2_with (gi_at_call 83; refine (appendSeq F (n - 1) h83 h63 hro (by omega) Bm b m _ hBm hm hown hb).mono ?_; rintro e w' ⟨v, ss, rfl, hS, hrow, hb⟩)
  go_ret
  exact ⟨v, ss, rfl, hS, hrow, hb⟩

theorem sortP_perm {l l' : List Pl} (h : l.Perm l') : sortP l = sortP l' := by
  have hp := fun l => List.pairwise_mergeSort (le := fun x y : Pl => !ltP y x) (fun a b c h1 h2 => by
    simp only [Bool.not_eq_true'] at h1 h2 ⊢
    exact swoP.ntrans c b a h2 h1) (fun a b => by
      cases h : ltP b a with
      | false => simp
      | true => simp [swoP.asymmA h]) l
  refine List.Perm.eq_of_pairwise (le := fun x y => (!ltP y x) = true) ?_ (hp l) (hp l') (((List.mergeSort_perm l _).trans h).trans (List.mergeSort_perm l' _).symm)
  intro a b _ _ h1 h2
  simp only [Bool.not_eq_true'] at h1 h2
  exact totP a b h2 h1

/-- slices.SortedFunc(maps.Keys(m), order): the keys, sorted. -/
theorem sortedFunc (Bm b : Nat) (m : List (Pl × Kp)) (w : World) (hBm : Bm < w.heap.size) (hm : w.cell? ⟨Bm, 0, none⟩ = some (.map (some b))) (hown : MapV encP w b (vals encK m)) (hb : m.length * 24 ≤ 140737488355328) :
    Calls Try.prog 39 #[.func (.func 63) #[] #[.pointer (some ⟨Bm, 0, none⟩)], .func (.func 33) #[] #[]] w fun e w' => ∃ v, e = .returned v ∧ w'.ownsRow w.heap.size 30 2 v m.length (cellsP (sortP (m.map (·.1)))) ∧ Below w.heap.size w w' := by
  have hcol := fun W (h1 : Bm < W.heap.size) (h2 : W.cell? ⟨Bm, 0, none⟩ = some (.map (some b))) (h3 : MapV encP W b (vals encK m)) => callsIn_wide.1 (collect Fence.wide 4 trivial trivial trivial rfl (by omega) Bm b m W h1 h2 h3 hb)
  go_enter Try.func39, Try.ntmps39
  go_wp2_with (go_at_call 61; refine (hcol _ hBm hm hown).mono ?_; rintro e w1 ⟨v, ss, rfl, hS, hrow, hb1⟩; have hlen := hS.length_eq; have hs1 := hb1.size)
  obtain ⟨g, l, c, rfl⟩ := ownsRow_slice hrow
  have hsort := sortFunc w.heap.size _ ss w1 hrow hs1 (by simp at hlen; omega)
  go_wp2_with (go_at_call 62; refine hsort.mono ?_; rintro e w2 ⟨rfl, hrow2, hb2⟩)
  go_ret
  refine ⟨_, rfl, ?_, hb1.trans hb2⟩
  rw [sortP_perm hS, hlen, List.length_map] at hrow2
  exact hrow2

#print axioms sortFunc
end Go.Proofs.Ytdkhaohjfclceaa.Rp
