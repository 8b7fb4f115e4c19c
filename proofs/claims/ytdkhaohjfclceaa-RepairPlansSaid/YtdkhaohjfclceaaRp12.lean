/- The document's Plan and Alike (as printed) answer as the program's do: plain. -/
import Derived.Test.YtdkhaohjfclceaaRp11
set_option linter.unusedVariables false
set_option linter.unusedSimpArgs false
namespace Go.Proofs.Ytdkhaohjfclceaa.Rp
open Go.RowKit Go.Sort Go.Proofs.Ytdkhaohjfclceaa.Mp Go.Proofs.Ytdkhaohjfclceaa.PRp Go.Proofs.YtdkhaohjfclceaaW.PrintWords

def s35 (x : Ak) : S35 := ⟨x.1, s33 x.2⟩
/-- An ask put behind all whose place is no greater one. -/
def insA : List Ak → Ak → List Ak
  | [], x => [x]
  | y :: l, x => if ltP x.2 y.2 = true then x :: y :: l else y :: insA l x
theorem insA_len (x : Ak) : ∀ out : List Ak, (insA out x).length = out.length + 1
  | [] => rfl
  | y :: l => by
    unfold insA
    split
    · rfl
    · simp [insA_len x l]
theorem insA_app (x : Ak) (b : List Ak) : ∀ a : List Ak, (∀ y ∈ a, ltP x.2 y.2 = false) → insA (a ++ b) x = a ++ insA b x
  | [], _ => rfl
  | y :: a, h => by
    rw [List.cons_append, insA, if_neg (by rw [h y List.mem_cons_self]; simp), insA_app x b a (fun q' hq => h q' (List.mem_cons_of_mem _ hq))]
    rfl
theorem rd35 (a b : List Ak) (q : Ak) : rd_T35 ((a ++ q :: b).map s35) (a.length : Int) = s35 q := by simp [rd_T35]
theorem rd33' (d : List Pl) (t : Nat) (h : t < d.length) : rd_T33 (d.map s33) (t : Int) = s33 d[t] := by simp [rd_T33, h]

theorem planL2 (own : List S81) (ls : List (List S81)) (i : Int) (d : List Pl) (t : Nat) (ht : t < d.length) (hd : d.length < 4611686018427387904) (r : List S35) :
    ∀ (b a : List Ak), (∀ y ∈ a, ltP d[t] y.2 = false) → (a ++ b).length < 4294967296 → Ev (fun k => thermographref19_Plan.l1 k own ls ((insA (a ++ b) (i, d[t])).map s35) i (d.map s33) ((t + 1 : Nat) : Int)) r →
      Ev (fun k => thermographref19_Plan.l2 k own ls ((a ++ b).map s35) i (d.map s33) (t : Int) (a.length : Int)) r
  | [], a, ha, hlen, h => by
    have hw := wrap_up t (by omega)
    rw [insA_app (i, d[t]) [] a ha] at h
    refine Ev.step h fun k => ?_
    show thermographref19_Plan.l2 (k + 1) own ls ((a ++ []).map s35) i (d.map s33) (t : Int) (a.length : Int) = _
    simp only [List.append_nil] at hlen ⊢
    rw [thermographref19_Plan.l2, if_neg (by simp)]
    simp only [Option.bind_some]
    rw [if_pos (by omega), if_pos (by simp)]
    simp only [Option.bind_some, Int.toNat_natCast, List.nil_append, List.length_nil, Nat.zero_add]
    have e1 : (a.map s35).take a.length = a.map s35 := List.take_of_length_le (by simp)
    have e2 : (a.map s35).drop a.length = [] := List.drop_eq_nil_of_le (by simp)
    rw [e1, e2, if_pos (by simp; omega), if_pos (by omega), if_pos (by simp; omega), if_pos (by simp; omega), if_pos (by simp; omega), hw, rd33' d t ht]
    simp [insA, s35, s33]
  | q :: b, a, ha, hlen, h => by
    have hw := wrap_up t (by omega)
    have hal : a.length < 4294967296 := by simp at hlen; omega
    have hwa := wrap_up a.length (by omega)
    by_cases hq : ltP d[t] q.2 = true
    · rw [insA_app (i, d[t]) (q :: b) a ha, insA, if_pos hq] at h
      refine Ev.step h fun k => ?_
      show thermographref19_Plan.l2 (k + 1) own ls ((a ++ q :: b).map s35) i (d.map s33) (t : Int) (a.length : Int) = _
      rw [thermographref19_Plan.l2, if_pos (by simp; omega), if_pos (by omega), if_pos (by simp; omega), if_pos (by omega), rd35, rd33' d t ht]
      show (thermographref19_less.f d[t].1 d[t].2 q.2.1 q.2.2).bind _ = _
      rw [lessF, hq]
      simp only [Option.bind_some, if_true]
      have e1 : ((a ++ q :: b).map s35).take a.length = a.map s35 := by simp [List.take_append_of_le_length]
      have e2 : ((a ++ q :: b).map s35).drop a.length = (q :: b).map s35 := by simp
      rw [if_pos (by simp; omega)]
      simp only [Int.toNat_natCast, List.nil_append, List.length_nil, Nat.zero_add, e1, e2]
      rw [if_pos (by simp at hlen ⊢; omega), if_pos (by simp at hlen ⊢; omega), if_pos (by simp at hlen ⊢; omega), hw]
      simp [s35, s33]
    · have hq' : ltP d[t] q.2 = false := by simpa using hq
      have hrec := planL2 own ls i d t ht hd r b (a ++ [q]) (fun q' h' => by
        rw [List.mem_append, List.mem_singleton] at h'
        rcases h' with h' | rfl
        · exact ha q' h'
        · exact hq') (by simpa using hlen) (by simpa using h)
      refine Ev.step hrec fun k => ?_
      show thermographref19_Plan.l2 (k + 1) own ls ((a ++ q :: b).map s35) i (d.map s33) (t : Int) (a.length : Int) = _
      rw [thermographref19_Plan.l2, if_pos (by simp; omega), if_pos (by omega), if_pos (by simp; omega), if_pos (by omega), rd35, rd33' d t ht]
      show (thermographref19_less.f d[t].1 d[t].2 q.2.1 q.2.2).bind _ = _
      rw [lessF, hq']
      simp only [Option.bind_some]
      rw [if_neg (by simp), hwa]
      simp

theorem planL1 (own : List S81) (ls : List (List S81)) (j : Nat) (hj : j < 4611686018427387904) (d : List Pl) (hd : d.length < 4294967296) (r : List S35) : ∀ (n t : Nat) (out : List Ak), t + n = d.length → out.length + n < 4294967296 →
    Ev (fun k => thermographref19_Plan.l0 k own ls ((((d.drop t).map (fun p => ((j : Int), p))).foldl insA out).map s35) ((j + 1 : Nat) : Int)) r →
      Ev (fun k => thermographref19_Plan.l1 k own ls (out.map s35) (j : Int) (d.map s33) (t : Int)) r
  | 0, t, out, h, hl, hr => by
    have hw := wrap_up j hj
    rw [List.drop_eq_nil_of_le (by omega)] at hr
    refine Ev.step hr fun k => ?_
    show thermographref19_Plan.l1 (k + 1) own ls (out.map s35) (j : Int) (d.map s33) (t : Int) = _
    rw [thermographref19_Plan.l1, if_neg (by simp; omega), hw]
    rfl
  | n + 1, t, out, h, hl, hr => by
    have ht : t < d.length := by omega
    rw [List.drop_eq_getElem_cons ht, List.map_cons, List.foldl_cons] at hr
    have ih := planL1 own ls j hj d hd r n (t + 1) (insA out ((j : Int), d[t])) (by omega) (by rw [insA_len]; omega) hr
    have h2 := planL2 own ls (j : Int) d t ht (by omega) r out [] (fun y hy => by cases hy) (by simp; omega) ih
    refine Ev.step h2 fun k => ?_
    show thermographref19_Plan.l1 (k + 1) own ls (out.map s35) (j : Int) (d.map s33) (t : Int) = _
    rw [thermographref19_Plan.l1, if_pos (by simp; omega)]
    rfl
theorem insA_fold_len : ∀ (l out : List Ak), (l.foldl insA out).length = out.length + l.length
  | [], out => by simp
  | x :: l, out => by
    rw [List.foldl_cons, insA_fold_len l, insA_len, List.length_cons]
    omega
theorem L4_drop (l : List (List S81)) (j : Nat) (h : j < l.length) : l.drop j = rd_L4 l (j : Int) :: l.drop (j + 1) := by
  rw [List.drop_eq_getElem_cons h]
  simp [rd_L4, h]
theorem planEv (own : List S81) (ls : List (List S81)) (ho : own.length < 4611686018427387904) (hl : ∀ l ∈ ls, l.length < 4294967296) (hls : ls.length < 4611686018427387904) : ∀ (n j : Nat) (out : List Ak), j + n = ls.length → out.length + (asksF own (ls.drop j) (j : Int)).length < 4294967296 →
    Ev (fun k => thermographref19_Plan.l0 k own ls (out.map s35) (j : Int)) (((asksF own (ls.drop j) (j : Int)).foldl insA out).map s35)
  | 0, j, out, h, hout => by
    refine Ev.of fun k => ?_
    show thermographref19_Plan.l0 (k + 1) own ls (out.map s35) (j : Int) = _
    rw [thermographref19_Plan.l0, if_neg (by omega), List.drop_eq_nil_of_le (by omega)]
    rfl
  | n + 1, j, out, h, hout => by
    have hmem : rd_L4 ls (j : Int) ∈ ls := by
      have : rd_L4 ls (j : Int) = ls[j]'(by omega) := by simp [rd_L4, show j < ls.length by omega]
      rw [this]; exact List.getElem_mem _
    rw [L4_drop ls j (by omega)] at hout ⊢
    obtain ⟨x, hx⟩ : ∃ x, rd_L4 ls (j : Int) = x := ⟨_, rfl⟩
    rw [hx] at hout hmem ⊢
    simp only [asksF, List.length_append, List.length_map] at hout
    rw [asksF, List.foldl_append]
    have e : ((j : Int) + 1) = ((j + 1 : Nat) : Int) := by omega
    rw [e] at hout ⊢
    have ih := planEv own ls ho hl hls n (j + 1) (((diffL own x).map (fun p => ((j : Int), p))).foldl insA out) (by omega) (by rw [insA_fold_len, List.length_map]; omega)
    have h1 := planL1 own ls j (by omega) (diffL own x) (by omega) _ (diffL own x).length 0 out (by omega) (by omega) (by rw [List.drop_zero]; exact ih)
    have hb := Ev.bind (diffF own x ho (hl x hmem)) (g := fun k t => thermographref19_Plan.l1 k own ls (out.map s35) (j : Int) t 0) (by rw [diffR_eq]; exact h1)
    refine Ev.step hb fun k => ?_
    show thermographref19_Plan.l0 (k + 1) own ls (out.map s35) (j : Int) = _
    rw [thermographref19_Plan.l0, if_pos (by omega), if_pos (by omega), hx]

theorem insA_perm (x : Ak) : ∀ out : List Ak, (insA out x).Perm (x :: out)
  | [] => List.Perm.refl _
  | y :: l => by
    unfold insA
    split
    · exact List.Perm.refl _
    · exact ((insA_perm x l).cons y).trans (List.Perm.swap x y l)
theorem insA_sorted (x : Ak) : ∀ out : List Ak, out.Pairwise (fun y z => ltA z y = false) → (∀ y ∈ out, y.1 ≤ x.1) → (insA out x).Pairwise fun y z => ltA z y = false
  | [], _, _ => by simp [insA]
  | y :: l, h, hx => by
    rw [List.pairwise_cons] at h
    unfold insA
    split
    · rename_i h1
      have hxy : ltA y x = false := by
        refine swoA.asymmA ?_
        unfold ltA
        rw [h1]; rfl
      rw [List.pairwise_cons]
      refine ⟨fun z hz => ?_, List.pairwise_cons.2 h⟩
      rcases List.mem_cons.1 hz with rfl | hz
      · exact hxy
      · exact swoA.ntrans _ _ _ (h.1 z hz) hxy
    · rename_i h1
      rw [List.pairwise_cons]
      refine ⟨fun z hz => ?_, insA_sorted x l h.2 (fun y' hy' => hx y' (List.mem_cons_of_mem _ hy'))⟩
      rcases List.mem_cons.1 ((insA_perm x l).mem_iff.1 hz) with rfl | hz
      · have h2 : ltP z.2 y.2 = false := by simpa using h1
        have h3 := hx y List.mem_cons_self
        unfold ltA
        rw [h2, Bool.false_or, Bool.and_eq_false_iff]
        right
        exact decide_eq_false (by omega)
      · exact h.1 z hz
theorem planR_eq : ∀ (l out : List Ak), out.Pairwise (fun y z => ltA z y = false) → l.Pairwise (fun x y => x.1 ≤ y.1) → (∀ y ∈ out, ∀ x ∈ l, y.1 ≤ x.1) →
    (l.foldl insA out).Pairwise (fun y z => ltA z y = false) ∧ (l.foldl insA out).Perm (out ++ l)
  | [], out, h, _, _ => ⟨h, by simp⟩
  | x :: l, out, h, hp, hx => by
    rw [List.foldl_cons]
    rw [List.pairwise_cons] at hp
    obtain ⟨h1, h2⟩ := planR_eq l (insA out x) (insA_sorted x out h (fun y hy => hx y hy x List.mem_cons_self)) hp.2 (fun y hy z hz => by
      rcases List.mem_cons.1 ((insA_perm x out).mem_iff.1 hy) with rfl | hy
      · exact hp.1 z hz
      · exact hx y hy z (List.mem_cons_of_mem _ hz))
    refine ⟨h1, h2.trans ?_⟩
    refine ((insA_perm x out).append_right l).trans ?_
    exact (List.perm_middle (a := x) (l₁ := out) (l₂ := l)).symm
theorem planF (own : List S81) (ls : List (List S81)) (ho : own.length < 4611686018427387904) (hl : ∀ l ∈ ls, l.length < 4294967296) (hls : ls.length < 4611686018427387904) (hN : (asksF own ls 0).length < 4294967296) :
    Ev (fun k => thermographref19_Plan.f k own ls) ((planL own ls).map s35) := by
  have h := planEv own ls ho hl hls ls.length 0 [] (by omega) (by rw [List.drop_zero]; simpa using hN)
  rw [List.drop_zero] at h
  have e : (asksF own ls ((0 : Nat) : Int)).foldl insA [] = planL own ls := by
    obtain ⟨h1, h2⟩ := planR_eq (asksF own ls 0) [] (by simp) (asksF_pairwise own ls 0) (by simp)
    have hp := List.pairwise_mergeSort (le := fun x y : Ak => !ltA y x) (fun a b c h1 h2 => by
      simp only [Bool.not_eq_true'] at h1 h2 ⊢
      exact swoA.ntrans c b a h2 h1) (fun a b => by
        cases h : ltA b a with
        | false => simp
        | true => simp [swoA.asymmA h]) (asksF own ls 0)
    refine List.Perm.eq_of_pairwise (le := fun x y => (!ltA y x) = true) ?_ (h1.imp fun h => by rw [h]; rfl) hp (h2.trans (by rw [List.nil_append]; exact (List.mergeSort_perm (asksF own ls 0) _).symm))
    intro a b _ _ h1 h2
    simp only [Bool.not_eq_true'] at h1 h2
    exact totA a b h2 h1
  rw [e] at h
  exact h

/-! ### Alike -/
theorem diffL_nil (a b : List S81) : diffL a b = [] ↔ ∀ p ∈ placedL b, same1 (placedL a) p.1 p.2 = true := by
  have h1 : diffL a b = [] ↔ diffM a b = [] := by
    constructor
    · intro h
      have := congrArg List.length h
      simp [diffL, sortP] at this
      exact this
    · intro h
      unfold diffL
      rw [h]
      simp [sortP]
  rw [h1]
  unfold diffM
  rw [List.filter_eq_nil_iff]
  constructor
  · intro h p hp
    have := h p hp
    simpa using this
  · intro h p hp
    simp [h p hp]
/-- Every entry of m2 stands in m1. -/
def Sub (m1 m2 : List (Pl × Kp)) : Prop := ∀ p ∈ m2, al p.1 m1 = some p.2
theorem same1_al (m : List (Pl × Kp)) (p : Pl) (k : Kp) : same1 m p k = true ↔ al p m = some k := by
  unfold same1
  cases h : al p m with
  | none => simp
  | some v =>
    simp only [Bool.and_eq_true, beq_iff_eq, Option.some.injEq]
    constructor
    · exact fun h => Prod.ext h.1 h.2
    · rintro rfl; exact ⟨rfl, rfl⟩
theorem okP_al (m : List (Pl × Kp)) (p : Pl × Kp) : okP m p = true ↔ al p.1 m = some p.2 := by
  unfold okP
  cases h : al p.1 m with
  | none => simp
  | some v =>
    simp only [Bool.and_eq_true, beq_iff_eq, Option.some.injEq]
    constructor
    · exact fun h => (Prod.ext h.1 h.2).symm
    · rintro rfl; exact ⟨rfl, rfl⟩
theorem sub_diff (a b : List S81) : diffL a b = [] ↔ Sub (placedL a) (placedL b) := by
  rw [diffL_nil]
  exact forall_congr' fun p => imp_congr_right fun _ => same1_al _ _ _
theorem eqM_iff (m1 m2 : List (Pl × Kp)) : eqM m1 m2 = true ↔ m1.length = m2.length ∧ Sub m2 m1 := by
  unfold eqM
  rw [Bool.and_eq_true, decide_eq_true_iff, List.all_eq_true]
  exact and_congr_right fun _ => forall_congr' fun p => imp_congr_right fun _ => okP_al _ _
theorem sub_mem {m1 m2 : List (Pl × Kp)} (h : Sub m1 m2) : ∀ p ∈ m2, p ∈ m1 := fun p hp => al_mem _ _ _ (h p hp)
theorem sub_of_mem {m1 m2 : List (Pl × Kp)} (hn : (m1.map (·.1)).Nodup) (h : ∀ p ∈ m2, p ∈ m1) : Sub m1 m2 := fun p hp => al_of_mem hn (h p hp)
theorem nodup_of_keys : ∀ {m : List (Pl × Kp)}, (m.map (·.1)).Nodup → m.Nodup
  | [], _ => List.nodup_nil
  | p :: m, h => by
    rw [List.map_cons, List.nodup_cons] at h
    rw [List.nodup_cons]
    exact ⟨fun hm => h.1 (List.mem_map.2 ⟨p, hm, rfl⟩), nodup_of_keys h.2⟩
theorem nodup_sub {α : Type} [DecidableEq α] : ∀ (l1 l2 : List α), l1.Nodup → (∀ x ∈ l1, x ∈ l2) → l1.length ≤ l2.length ∧ (l2.length ≤ l1.length → ∀ x ∈ l2, x ∈ l1)
  | [], l2, _, _ => by
    refine ⟨Nat.zero_le _, fun h x hx => ?_⟩
    have := List.eq_nil_of_length_eq_zero (Nat.le_zero.1 h)
    rw [this] at hx
    cases hx
  | a :: l1, l2, hn, h => by
    rw [List.nodup_cons] at hn
    have ha := h a List.mem_cons_self
    have hsub : ∀ x ∈ l1, x ∈ l2.erase a := fun x hx => by
      refine (List.mem_erase_of_ne (fun e => ?_)).2 (h x (List.mem_cons_of_mem _ hx))
      subst e
      exact hn.1 hx
    obtain ⟨h1, h2⟩ := nodup_sub l1 (l2.erase a) hn.2 hsub
    have hlen := List.length_erase_of_mem ha
    have hpos := List.length_pos_of_mem ha
    refine ⟨by simp; omega, fun hl x hx => ?_⟩
    by_cases e : x = a
    · subst e; exact List.mem_cons_self
    · exact List.mem_cons_of_mem _ (h2 (by simp at hl; omega) x ((List.mem_erase_of_ne e).2 hx))
theorem sub_len {m1 m2 : List (Pl × Kp)} (h2 : (m2.map (·.1)).Nodup) (h : Sub m1 m2) : m2.length ≤ m1.length :=
  (nodup_sub m2 m1 (nodup_of_keys h2) (fun p hp => sub_mem h p hp)).1
theorem sub_rev {m1 m2 : List (Pl × Kp)} (h2 : (m2.map (·.1)).Nodup) (hl : m1.length ≤ m2.length) (h : Sub m1 m2) : Sub m2 m1 :=
  sub_of_mem h2 ((nodup_sub m2 m1 (nodup_of_keys h2) (fun p hp => sub_mem h p hp)).2 hl)
theorem sub_trans {m1 m2 m3 : List (Pl × Kp)} (h1 : Sub m1 m2) (h2 : Sub m2 m3) : Sub m1 m3 := fun p hp => h1 p (sub_mem h2 p hp)

def alikeR (ls : List (List S81)) : Prop := ∀ i k, i < ls.length → k < ls.length → diffL (rd_L4 ls (i : Int)) (rd_L4 ls (k : Int)) = []
theorem alike_iff (ls : List (List S81)) : alikeL ls = true ↔ alikeR ls := by
  have nd : ∀ l : List S81, ((placedL l).map (·.1)).Nodup := fun l => placed_nodup l [] (by simp)
  unfold alikeL alikeR
  simp only [List.all_eq_true, List.mem_range, Bool.or_eq_true, beq_iff_eq]
  constructor
  · intro h i k hi hk
    rw [sub_diff]
    have h0 : ∀ q, q < ls.length → Sub (placedL (rd_L4 ls (q : Int))) (placedL (rd_L4 ls 0)) ∧ Sub (placedL (rd_L4 ls 0)) (placedL (rd_L4 ls (q : Int))) := by
      intro q hq
      rcases h q hq with rfl | he
      · exact ⟨sub_of_mem (nd _) fun p hp => hp, sub_of_mem (nd _) fun p hp => hp⟩
      · rw [eqM_iff] at he
        exact ⟨he.2, sub_rev (nd _) (by omega) he.2⟩
    exact sub_trans (h0 i hi).1 (h0 k hk).2
  · intro h q hq
    by_cases e : q = 0
    · exact .inl e
    · right
      rw [eqM_iff]
      have h1 := (sub_diff _ _).1 (h q 0 hq (by omega))
      have h2 := (sub_diff _ _).1 (h 0 q (by omega) hq)
      exact ⟨Nat.le_antisymm (sub_len (nd _) h1) (sub_len (nd _) h2), h1⟩

noncomputable def decP (p : Prop) : Bool := @decide p (Classical.propDecidable p)
theorem decP_true {p : Prop} (h : p) : decP p = true := @decide_eq_true p (Classical.propDecidable p) h
theorem decP_false {p : Prop} (h : ¬ p) : decP p = false := @decide_eq_false p (Classical.propDecidable p) h
theorem L4_mem (ls : List (List S81)) (j : Nat) (h : j < ls.length) : rd_L4 ls (j : Int) ∈ ls := by
  have : rd_L4 ls (j : Int) = ls[j] := by simp [rd_L4, h]
  rw [this]; exact List.getElem_mem h
theorem alikeL1 (ls : List (List S81)) (hl : ∀ l ∈ ls, l.length < 4294967296) (hls : ls.length < 4611686018427387904) (i : Nat) (hi : i < ls.length) (r0 : Bool) (h0 : Ev (fun k => thermographref19_Alike.l0 k ls ((i + 1 : Nat) : Int)) r0) :
    ∀ n t, t + n = ls.length → Ev (fun k => thermographref19_Alike.l1 k ls (i : Int) (t : Int)) (decP (∀ k, t ≤ k → k < ls.length → diffL (rd_L4 ls (i : Int)) (rd_L4 ls (k : Int)) = []) && r0)
  | 0, t, h => by
    have hw := wrap_up i (by omega)
    rw [decP_true (fun k h1 h2 => by omega), Bool.true_and]
    refine Ev.step h0 fun k => ?_
    show thermographref19_Alike.l1 (k + 1) ls (i : Int) (t : Int) = _
    rw [thermographref19_Alike.l1, if_neg (by omega), hw]
  | n + 1, t, h => by
    have hw := wrap_up t (by omega)
    have ih := alikeL1 ls hl hls i hi r0 h0 n (t + 1) (by omega)
    have hb := Ev.bind (diffF (rd_L4 ls (i : Int)) (rd_L4 ls (t : Int)) (by have := hl _ (L4_mem ls i hi); omega) (hl _ (L4_mem ls t (by omega)))) (g := fun k t224 => if (t224.length : Int) > 0 then (some false) else (thermographref19_Alike.l1 k ls (i : Int) ((t + 1 : Nat) : Int)))
      (r := decP (∀ k, t ≤ k → k < ls.length → diffL (rd_L4 ls (i : Int)) (rd_L4 ls (k : Int)) = []) && r0) (by
        rw [diffR_eq]
        by_cases c : diffL (rd_L4 ls (i : Int)) (rd_L4 ls (t : Int)) = []
        · have e : decP (∀ k, t ≤ k → k < ls.length → diffL (rd_L4 ls (i : Int)) (rd_L4 ls (k : Int)) = []) = decP (∀ k, t + 1 ≤ k → k < ls.length → diffL (rd_L4 ls (i : Int)) (rd_L4 ls (k : Int)) = []) := by
            by_cases c2 : ∀ k, t + 1 ≤ k → k < ls.length → diffL (rd_L4 ls (i : Int)) (rd_L4 ls (k : Int)) = []
            · rw [decP_true c2, decP_true]
              intro k h1 h2
              by_cases e : k = t
              · subst e; exact c
              · exact c2 k (by omega) h2
            · rw [decP_false c2, decP_false (fun h' => c2 fun k h1 h2 => h' k (by omega) h2)]
          rw [e, c]
          simpa using ih
        · rw [decP_false (fun h' => c (h' t (Nat.le_refl _) (by omega))), Bool.false_and]
          have hpos := List.length_pos_iff.2 c
          have : ((List.map s33 (diffL (rd_L4 ls (i : Int)) (rd_L4 ls (t : Int)))).length : Int) > 0 := by simp; exact hpos
          refine ⟨0, fun k _ => ?_⟩
          show (if _ then _ else _) = _
          rw [if_pos this])
    refine Ev.step hb fun k => ?_
    show thermographref19_Alike.l1 (k + 1) ls (i : Int) (t : Int) = _
    rw [thermographref19_Alike.l1, if_pos (by omega), if_pos (by omega), if_pos (by omega), if_pos (by omega), hw]
theorem alikeL0 (ls : List (List S81)) (hl : ∀ l ∈ ls, l.length < 4294967296) (hls : ls.length < 4611686018427387904) :
    ∀ n i, i + n = ls.length → Ev (fun k => thermographref19_Alike.l0 k ls (i : Int)) (decP (∀ i' k, i ≤ i' → i' < ls.length → k < ls.length → diffL (rd_L4 ls (i' : Int)) (rd_L4 ls (k : Int)) = []))
  | 0, i, h => by
    rw [decP_true (fun i' k h1 h2 => by omega)]
    refine Ev.of fun k => ?_
    show thermographref19_Alike.l0 (k + 1) ls (i : Int) = _
    rw [thermographref19_Alike.l0, if_neg (by omega)]
  | n + 1, i, h => by
    have ih := alikeL0 ls hl hls n (i + 1) (by omega)
    have h1 := alikeL1 ls hl hls i (by omega) _ ih ls.length 0 (by omega)
    have e : decP (∀ i' k, i ≤ i' → i' < ls.length → k < ls.length → diffL (rd_L4 ls (i' : Int)) (rd_L4 ls (k : Int)) = []) = (decP (∀ k, 0 ≤ k → k < ls.length → diffL (rd_L4 ls (i : Int)) (rd_L4 ls (k : Int)) = []) && decP (∀ i' k, i + 1 ≤ i' → i' < ls.length → k < ls.length → diffL (rd_L4 ls (i' : Int)) (rd_L4 ls (k : Int)) = [])) := by
      by_cases c1 : ∀ k, 0 ≤ k → k < ls.length → diffL (rd_L4 ls (i : Int)) (rd_L4 ls (k : Int)) = []
      · by_cases c2 : ∀ i' k, i + 1 ≤ i' → i' < ls.length → k < ls.length → diffL (rd_L4 ls (i' : Int)) (rd_L4 ls (k : Int)) = []
        · rw [decP_true c1, decP_true c2, decP_true]
          · rfl
          · intro i' k h1 h2 h3
            by_cases e : i' = i
            · subst e; exact c1 k (Nat.zero_le _) h3
            · exact c2 i' k (by omega) h2 h3
        · rw [decP_false c2, decP_false (fun h' => c2 fun i' k h1 h2 h3 => h' i' k (by omega) h2 h3), Bool.and_false]
      · rw [decP_false c1, decP_false (fun h' => c1 fun k _ h3 => h' i k (Nat.le_refl _) (by omega) h3), Bool.false_and]
    rw [e]
    refine Ev.step h1 fun k => ?_
    show thermographref19_Alike.l0 (k + 1) ls (i : Int) = _
    rw [thermographref19_Alike.l0, if_pos (by omega)]
    rfl
theorem alikeF (ls : List (List S81)) (hl : ∀ l ∈ ls, l.length < 4294967296) (hls : ls.length < 4611686018427387904) : Ev (fun k => thermographref19_Alike.f k ls) (alikeL ls) := by
  have h := alikeL0 ls hl hls ls.length 0 (by omega)
  have e : decP (∀ i' k, 0 ≤ i' → i' < ls.length → k < ls.length → diffL (rd_L4 ls (i' : Int)) (rd_L4 ls (k : Int)) = []) = alikeL ls := by
    cases c : alikeL ls with
    | true => exact decP_true fun i' k _ h2 h3 => (alike_iff ls).1 c i' k h2 h3
    | false =>
      refine decP_false fun h' => ?_
      have : alikeR ls := fun i k h1 h2 => h' i k (Nat.zero_le _) h1 h2
      rw [← alike_iff, c] at this
      cases this
  rw [e] at h
  exact h

/-! ### heavy -/
def wt (ls : List (List S81)) : Nat := (ls.map fun l => min l.length 1048576).sum
theorem heavyEv (ls : List (List S81)) (hls : ls.length < 4611686018427387904) : ∀ (n j : Nat) (x : Nat), j + n = ls.length → ∃ r, Ev (fun k => thermographlaw19_heavy.l0 k ls (x : Int) (j : Int)) r ∧ (r = false → x + wt (ls.drop j) ≤ 512)
  | 0, j, x, h => by
    refine ⟨decide ((x : Int) > 512), Ev.of fun k => ?_, fun hr => ?_⟩
    · show thermographlaw19_heavy.l0 (k + 1) ls (x : Int) (j : Int) = _
      rw [thermographlaw19_heavy.l0, if_neg (by omega)]
    · rw [List.drop_eq_nil_of_le (by omega)]
      have := of_decide_eq_false hr
      simp [wt]
      omega
  | n + 1, j, x, h => by
    have hw := wrap_up j (by omega)
    by_cases c : x ≤ 512
    · obtain ⟨r, h1, h2⟩ := heavyEv ls hls n (j + 1) (x + min (rd_L4 ls (j : Int)).length 1048576) (by omega)
      refine ⟨r, Ev.step h1 fun k => ?_, fun hr => ?_⟩
      · show thermographlaw19_heavy.l0 (k + 1) ls (x : Int) (j : Int) = _
        rw [thermographlaw19_heavy.l0, if_pos (by omega), if_pos (by omega), if_pos (by omega), hw]
        congr 1
        unfold mn wrap64
        omega
      · have := h2 hr
        rw [L4_drop ls j (by omega)]
        simp only [wt, List.map_cons, List.sum_cons] at this ⊢
        omega
    · refine ⟨decide ((x : Int) > 512), Ev.of fun k => ?_, fun hr => ?_⟩
      · show thermographlaw19_heavy.l0 (k + 1) ls (x : Int) (j : Int) = _
        rw [thermographlaw19_heavy.l0, if_pos (by omega), if_neg (by omega)]
      · have := of_decide_eq_false hr
        omega
theorem wt_mem {ls : List (List S81)} (h : wt ls ≤ 512) : ∀ l ∈ ls, l.length ≤ 512 := by
  induction ls with
  | nil => intro l hl; cases hl
  | cons x ls ih =>
    simp only [wt, List.map_cons, List.sum_cons] at h ih
    intro l hl
    rcases List.mem_cons.1 hl with rfl | hl
    · omega
    · exact ih (by omega) l hl
theorem diffL_len (a b : List S81) : (diffL a b).length ≤ b.length := by
  have : (diffL a b).length = (diffM a b).length := by simp [diffL, sortP]
  rw [this]
  exact diffM_len a b
theorem asks_len (own : List S81) : ∀ (ls : List (List S81)) (i : Int), wt ls ≤ 512 → (asksF own ls i).length ≤ wt ls
  | [], i, _ => by simp [asksF]
  | x :: ls, i, h => by
    have h' := wt_mem h x List.mem_cons_self
    have h2 := diffL_len own x
    simp only [wt, List.map_cons, List.sum_cons] at h ⊢
    have ih := asks_len own ls (i + 1) (by simp only [wt]; omega)
    simp only [wt] at ih
    simp only [asksF, List.length_append, List.length_map]
    omega
theorem heavyF (ls : List (List S81)) (hls : ls.length < 4611686018427387904) : ∃ r, Ev (fun k => thermographlaw19_heavy.f k ls) r ∧ (r = false → ls.length ≤ 512 ∧ wt ls ≤ 512) := by
  obtain ⟨r, h1, h2⟩ := heavyEv ls hls ls.length 0 ls.length (by omega)
  refine ⟨r, h1, fun hr => ?_⟩
  have := h2 hr
  rw [List.drop_zero] at this
  omega

#print axioms planF
#print axioms alikeF
#print axioms heavyF
end Go.Proofs.Ytdkhaohjfclceaa.Rp
