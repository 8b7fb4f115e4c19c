/- The document's Diff, Plan, Alike (as printed) answer as the program's do: plain. -/
import Derived.Test.YtdkhaohjfclceaaRp10
import Derived.Test.YtdkhaohjfclceaaPRpx2
import Derived.Test.YtdkhaohjfclceaaPRpx3
import Derived.Test.YtdkhaohjfclceaaPRpx4
import Derived.Test.YtdkhaohjfclceaaPRpx5
import Derived.Test.YtdkhaohjfclceaaPRpx6
set_option linter.unusedVariables false
set_option linter.unusedSimpArgs false
namespace Go.Proofs.Ytdkhaohjfclceaa.Rp
open Go.RowKit Go.Sort Go.Proofs.Ytdkhaohjfclceaa.Mp Go.Proofs.Ytdkhaohjfclceaa.PRp Go.Proofs.YtdkhaohjfclceaaW.PrintWords

/-- With rounds enough f answers r. -/
def Ev {α : Type} (f : Nat → Option α) (r : α) : Prop := ∃ K, ∀ k, K ≤ k → f k = some r
theorem Ev.step {α : Type} {f g : Nat → Option α} {r : α} (h : Ev g r) (e : ∀ k, f (k + 1) = g k) : Ev f r := by
  obtain ⟨K, hK⟩ := h
  refine ⟨K + 1, fun k hk => ?_⟩
  obtain ⟨k', rfl⟩ : ∃ k', k = k' + 1 := ⟨k - 1, by omega⟩
  rw [e]
  exact hK k' (by omega)
theorem Ev.of {α : Type} {f : Nat → Option α} {r : α} (h : ∀ k, f (k + 1) = some r) : Ev f r := ⟨1, fun k hk => by
  obtain ⟨k', rfl⟩ : ∃ k', k = k' + 1 := ⟨k - 1, by omega⟩
  exact h k'⟩
theorem Ev.bind {α β : Type} {f : Nat → Option α} {g : Nat → α → Option β} {a : α} {r : β} (h : Ev f a) (hg : Ev (fun k => g k a) r) : Ev (fun k => (f k).bind (g k)) r := by
  obtain ⟨K, hK⟩ := h
  obtain ⟨L, hL⟩ := hg
  refine ⟨max K L, fun k hk => ?_⟩
  show (f k).bind (g k) = some r
  rw [hK k (by omega)]
  exact hL k (by omega)
theorem wrap_up (j : Nat) (h : j < 4611686018427387904) : wrap64 ((j : Int) + 1) = ((j + 1 : Nat) : Int) := by
  unfold wrap64; omega

def pOf (x : S81) : Pl := (x.f0, x.f1)
def firstR : List S81 → Pl → ByteArray × Int × Int × Int × Bool
  | [], _ => (⟨#[]⟩, 0, 0, 0, false)
  | x :: l, p => if pOf x = p then (x.f0, x.f1, x.f2, x.f3, true) else firstR l p
theorem rd_drop (l : List S81) (j : Nat) (h : j < l.length) : l.drop j = rd_T81 l (j : Int) :: l.drop (j + 1) := by
  rw [List.drop_eq_getElem_cons h]
  simp [rd_T81, h]
theorem firstEv (l : List S81) (s : ByteArray) (i : Int) (hl : l.length < 4611686018427387904) : ∀ n j, j + n = l.length → Ev (fun k => thermographref19_first.l0 k l (j : Int) s i) (firstR (l.drop j) (s, i))
  | 0, j, h => by
    refine Ev.of fun k => ?_
    show thermographref19_first.l0 (k + 1) l (j : Int) s i = _
    rw [thermographref19_first.l0, if_neg (by omega), List.drop_eq_nil_of_le (by omega)]
    rfl
  | n + 1, j, h => by
    rw [rd_drop l j (by omega)]
    obtain ⟨x, hx⟩ : ∃ x, rd_T81 l (j : Int) = x := ⟨_, rfl⟩
    rw [hx]
    have hw := wrap_up j (by omega)
    by_cases e : pOf x = (s, i)
    · refine Ev.of fun k => ?_
      show thermographref19_first.l0 (k + 1) l (j : Int) s i = _
      have e1 : x.f0 = s := congrArg Prod.fst e
      have e2 : x.f1 = i := congrArg Prod.snd e
      rw [thermographref19_first.l0, if_pos (by omega), if_pos (by omega), hx, if_pos (by rw [e1]), if_pos e2]
      simp [firstR, e]
    · refine Ev.step (firstEv l s i hl n (j + 1) (by omega) |> fun h => (show Ev _ (firstR (x :: l.drop (j + 1)) (s, i)) by rw [firstR, if_neg e]; exact h)) fun k => ?_
      show thermographref19_first.l0 (k + 1) l (j : Int) s i = thermographref19_first.l0 k l ((j + 1 : Nat) : Int) s i
      rw [thermographref19_first.l0, if_pos (by omega), if_pos (by omega), hx, hw]
      by_cases e1 : x.f0.toList = s.toList
      · rw [if_pos e1, if_neg (fun e2 : x.f1 = i => e (Prod.ext (ByteArray_ext_toList e1) e2))]
      · rw [if_neg e1]
theorem firstF (l : List S81) (p : Pl) (hl : l.length < 4611686018427387904) : Ev (fun k => thermographref19_first.f k l p.1 p.2) (firstR l p) := by
  have h := firstEv l p.1 p.2 hl l.length 0 (by omega)
  rw [List.drop_zero] at h
  exact h
theorem lessF (p q : Pl) : thermographref19_less.f p.1 p.2 q.1 q.2 = some (ltP p q) := by
  unfold thermographref19_less.f ltP
  rw [bytesLess_eq]
  by_cases h1 : p.2 < q.2
  · simp [h1]
  · by_cases h2 : p.2 = q.2
    · simp [h1, h2]
    · simp [h1, h2]

def s33 (p : Pl) : S33 := ⟨p.1, p.2⟩
/-- Does own say the same of the place, as far as the first metas go? -/
def sameR (own other : List S81) (p : Pl) : Bool :=
  (firstR own p).2.2.2.2 && ((firstR other p).2.2.1 == (firstR own p).2.2.1 && (firstR other p).2.2.2.1 == (firstR own p).2.2.2.1)
/-- p put into a list that ascends. -/
def insR : List Pl → Pl → List Pl
  | [], p => [p]
  | q :: l, p => if ltP q p = true then q :: insR l p else if q = p then q :: l else p :: q :: l
def diffStep (own other : List S81) (out : List Pl) (x : S81) : List Pl := if sameR own other (pOf x) = true then out else insR out (pOf x)
theorem insR_len (p : Pl) : ∀ out : List Pl, (insR out p).length ≤ out.length + 1
  | [] => by simp [insR]
  | q :: l => by
    have := insR_len p l
    unfold insR
    split
    · simp; omega
    · split <;> simp
theorem diffStep_len (own other : List S81) (out : List Pl) (x : S81) : (diffStep own other out x).length ≤ out.length + 1 := by
  unfold diffStep
  split
  · omega
  · exact insR_len _ _
theorem insR_app (p : Pl) (b : List Pl) : ∀ a : List Pl, (∀ q ∈ a, ltP q p = true) → insR (a ++ b) p = a ++ insR b p
  | [], _ => rfl
  | q :: a, h => by
    rw [List.cons_append, insR, if_pos (h q List.mem_cons_self), insR_app p b a (fun q' hq => h q' (List.mem_cons_of_mem _ hq))]
    rfl
theorem rd33 (a b : List Pl) (q : Pl) : rd_T33 ((a ++ q :: b).map s33) (a.length : Int) = s33 q := by simp [rd_T33]

theorem diffL1 (own other : List S81) (p : Pl) (j : Nat) (hj : j < 4611686018427387904) (r : List S33) :
    ∀ (b a : List Pl), (∀ q ∈ a, ltP q p = true) → (a ++ b).length < 4294967296 → Ev (fun k => thermographref19_Diff.l0 k own other ((insR (a ++ b) p).map s33) ((j + 1 : Nat) : Int)) r →
      Ev (fun k => thermographref19_Diff.l1 k own other ((a ++ b).map s33) (j : Int) (a.length : Int) p.1 p.2) r
  | [], a, ha, hlen, h => by
    have hw := wrap_up j hj
    rw [insR_app p [] a ha] at h
    refine Ev.step h fun k => ?_
    show thermographref19_Diff.l1 (k + 1) own other ((a ++ []).map s33) (j : Int) (a.length : Int) p.1 p.2 = _
    simp only [List.append_nil] at hlen ⊢
    rw [thermographref19_Diff.l1, if_neg (by simp)]
    simp only [Option.bind_some]
    rw [if_pos (by omega), if_pos (by simp)]
    simp only [Option.bind_some, Int.toNat_natCast, List.nil_append, List.length_nil, Nat.zero_add]
    have e1 : (a.map s33).take a.length = a.map s33 := List.take_of_length_le (by simp)
    have e2 : (a.map s33).drop a.length = [] := List.drop_eq_nil_of_le (by simp)
    rw [e1, e2, if_pos (by simp; omega), if_pos (by simp; omega), if_pos (by simp; omega), hw]
    simp [insR, s33]
  | q :: b, a, ha, hlen, h => by
    have hw := wrap_up j hj
    have hal : a.length < 4294967296 := by simp at hlen; omega
    have hwa := wrap_up a.length (by omega)
    by_cases hq : ltP q p = true
    · have hrec := diffL1 own other p j hj r b (a ++ [q]) (fun q' h' => by
        rw [List.mem_append, List.mem_singleton] at h'
        rcases h' with h' | rfl
        · exact ha q' h'
        · exact hq) (by simpa using hlen) (by simpa using h)
      refine Ev.step hrec fun k => ?_
      show thermographref19_Diff.l1 (k + 1) own other ((a ++ q :: b).map s33) (j : Int) (a.length : Int) p.1 p.2 = _
      rw [thermographref19_Diff.l1, if_pos (by simp; omega), if_pos (by omega), rd33]
      show (thermographref19_less.f q.1 q.2 p.1 p.2).bind _ = _
      rw [lessF, hq]
      simp only [Option.bind_some, if_true]
      rw [hwa]
      simp
    · have hq' : ltP q p = false := by simpa using hq
      by_cases e : q = p
      · subst e
        rw [insR_app q (q :: b) a ha, insR, if_neg hq, if_pos rfl] at h
        refine Ev.step h fun k => ?_
        show thermographref19_Diff.l1 (k + 1) own other ((a ++ q :: b).map s33) (j : Int) (a.length : Int) q.1 q.2 = _
        rw [thermographref19_Diff.l1, if_pos (by simp; omega), if_pos (by omega), rd33]
        show (thermographref19_less.f q.1 q.2 q.1 q.2).bind _ = _
        rw [lessF, hq']
        simp only [Option.bind_some, s33]
        rw [if_neg (by simp), if_pos (by simp), hw]
      · rw [insR_app p (q :: b) a ha, insR, if_neg hq, if_neg e] at h
        refine Ev.step h fun k => ?_
        show thermographref19_Diff.l1 (k + 1) own other ((a ++ q :: b).map s33) (j : Int) (a.length : Int) p.1 p.2 = _
        have e3 : (q.1.toList == p.1.toList && q.2 == p.2) = false := by
          cases h' : (q.1.toList == p.1.toList && q.2 == p.2) with
          | false => rfl
          | true =>
            rw [Bool.and_eq_true, beq_iff_eq, beq_iff_eq] at h'
            exact absurd (Prod.ext (ByteArray_ext_toList h'.1) h'.2) e
        rw [thermographref19_Diff.l1, if_pos (by simp; omega), if_pos (by omega), rd33]
        show (thermographref19_less.f q.1 q.2 p.1 p.2).bind _ = _
        rw [lessF, hq']
        simp only [Option.bind_some, s33]
        rw [if_neg (by simp)]
        have e1 : ((a ++ q :: b).map s33).take a.length = a.map s33 := by simp [List.take_append_of_le_length]
        have e2 : ((a ++ q :: b).map s33).drop a.length = (q :: b).map s33 := by simp
        rw [e3, if_neg (by simp), if_pos (by simp; omega)]
        simp only [Int.toNat_natCast, List.nil_append, List.length_nil, Nat.zero_add, e1, e2]
        rw [if_pos (by simp at hlen ⊢; omega), if_pos (by simp at hlen ⊢; omega), if_pos (by simp at hlen ⊢; omega), hw]
        simp [s33]

theorem diffJ1 (own other : List S81) (p : Pl) (j : Nat) (hj : j < 4611686018427387904) (r : List S33) (out : List Pl) (hlen : out.length < 4294967296) (c : Bool)
    (h : Ev (fun k => thermographref19_Diff.l0 k own other ((if c = true then out else insR out p).map s33) ((j + 1 : Nat) : Int)) r) :
    Ev (fun k => thermographref19_Diff.j1 k own other (out.map s33) (j : Int) c p.1 p.2) r := by
  have hw := wrap_up j hj
  cases c with
  | true =>
    refine Ev.step h fun k => ?_
    show thermographref19_Diff.j1 (k + 1) own other (out.map s33) (j : Int) true p.1 p.2 = _
    rw [thermographref19_Diff.j1, if_pos rfl, if_pos rfl, hw]
  | false =>
    have h1 := diffL1 own other p j hj r out [] (fun q hq => by cases hq) (by simpa using hlen) (by simpa using h)
    refine Ev.step h1 fun k => ?_
    show thermographref19_Diff.j1 (k + 1) own other (out.map s33) (j : Int) false p.1 p.2 = _
    rw [thermographref19_Diff.j1, if_neg (by simp)]
    rfl
theorem diffEv (own other : List S81) (ho : own.length < 4611686018427387904) (hl : other.length < 4294967296) : ∀ (n j : Nat) (out : List Pl), j + n = other.length → out.length ≤ j →
    Ev (fun k => thermographref19_Diff.l0 k own other (out.map s33) (j : Int)) (((other.drop j).foldl (diffStep own other) out).map s33)
  | 0, j, out, h, hout => by
    refine Ev.of fun k => ?_
    show thermographref19_Diff.l0 (k + 1) own other (out.map s33) (j : Int) = _
    rw [thermographref19_Diff.l0, if_neg (by omega), List.drop_eq_nil_of_le (by omega)]
    rfl
  | n + 1, j, out, h, hout => by
    rw [rd_drop other j (by omega)]
    obtain ⟨x, hx⟩ : ∃ x, rd_T81 other (j : Int) = x := ⟨_, rfl⟩
    rw [hx, List.foldl_cons]
    have ih := diffEv own other ho hl n (j + 1) (diffStep own other out x) (by omega) (Nat.le_trans (diffStep_len _ _ _ _) (by omega))
    have hj := diffJ1 own other (pOf x) j (by omega) _ out (by omega) (sameR own other (pOf x)) ih
    have hb := Ev.bind (firstF other (pOf x) (by omega)) (g := fun k bt115 => (thermographref19_first.f k own x.f0 x.f1).bind fun bt121 => (if bt121.2.2.2.2 = true then (if bt115.2.2.1 = bt121.2.2.1 then (thermographref19_Diff.j1 k own other (out.map s33) (j : Int) (bt115.2.2.2.1 == bt121.2.2.2.1) x.f0 x.f1) else (thermographref19_Diff.j1 k own other (out.map s33) (j : Int) false x.f0 x.f1)) else (thermographref19_Diff.j1 k own other (out.map s33) (j : Int) false x.f0 x.f1))) (r := ((other.drop (j + 1)).foldl (diffStep own other) (diffStep own other out x)).map s33) (by
        refine Ev.bind (firstF own (pOf x) ho) (g := fun k bt121 => (if bt121.2.2.2.2 = true then (if (firstR other (pOf x)).2.2.1 = bt121.2.2.1 then (thermographref19_Diff.j1 k own other (out.map s33) (j : Int) ((firstR other (pOf x)).2.2.2.1 == bt121.2.2.2.1) x.f0 x.f1) else (thermographref19_Diff.j1 k own other (out.map s33) (j : Int) false x.f0 x.f1)) else (thermographref19_Diff.j1 k own other (out.map s33) (j : Int) false x.f0 x.f1))) ?_
        have e : ∀ k, (if (firstR own (pOf x)).2.2.2.2 = true then (if (firstR other (pOf x)).2.2.1 = (firstR own (pOf x)).2.2.1 then (thermographref19_Diff.j1 k own other (out.map s33) (j : Int) ((firstR other (pOf x)).2.2.2.1 == (firstR own (pOf x)).2.2.2.1) x.f0 x.f1) else (thermographref19_Diff.j1 k own other (out.map s33) (j : Int) false x.f0 x.f1)) else (thermographref19_Diff.j1 k own other (out.map s33) (j : Int) false x.f0 x.f1)) = thermographref19_Diff.j1 k own other (out.map s33) (j : Int) (sameR own other (pOf x)) x.f0 x.f1 := by
          intro k
          unfold sameR
          by_cases c1 : (firstR own (pOf x)).2.2.2.2 = true
          · rw [if_pos c1, c1]
            by_cases c2 : (firstR other (pOf x)).2.2.1 = (firstR own (pOf x)).2.2.1
            · rw [if_pos c2, c2]; simp
            · rw [if_neg c2, beq_eq_false_iff_ne.2 c2]; simp
          · rw [if_neg c1, Bool.eq_false_iff.2 c1]; simp
        simp only [e]
        exact hj)
    refine Ev.step hb fun k => ?_
    show thermographref19_Diff.l0 (k + 1) own other (out.map s33) (j : Int) = _
    rw [thermographref19_Diff.l0, if_pos (by omega), if_pos (by omega), hx]
    rfl
def diffR (own other : List S81) : List Pl := other.foldl (diffStep own other) []
theorem diffF (own other : List S81) (ho : own.length < 4611686018427387904) (hl : other.length < 4294967296) : Ev (fun k => thermographref19_Diff.f k own other) ((diffR own other).map s33) := by
  have h := diffEv own other ho hl other.length 0 [] (by omega) (by simp)
  rw [List.drop_zero] at h
  exact h

/-! ### The same list -/
theorem insR_mem (p : Pl) : ∀ (out : List Pl) (q : Pl), q ∈ insR out p ↔ q ∈ out ∨ q = p
  | [], q => by simp [insR]
  | x :: l, q => by
    have ih := insR_mem p l q
    unfold insR
    split
    · simp only [List.mem_cons, ih]
      exact or_assoc.symm
    · split
      · rename_i h1 h2
        subst h2
        simp only [List.mem_cons]
        constructor
        · exact fun h => .inl h
        · rintro (h | h)
          · exact h
          · exact .inl h
      · simp only [List.mem_cons]
        constructor
        · rintro (h | h)
          · exact .inr h
          · exact .inl h
        · rintro (h | h)
          · exact .inr h
          · exact .inl h
theorem insR_sorted (p : Pl) : ∀ out : List Pl, out.Pairwise (fun x y => ltP x y = true) → (insR out p).Pairwise (fun x y => ltP x y = true)
  | [], _ => by simp [insR]
  | x :: l, h => by
    rw [List.pairwise_cons] at h
    unfold insR
    split
    · rename_i h1
      rw [List.pairwise_cons]
      refine ⟨fun y hy => ?_, insR_sorted p l h.2⟩
      rcases (insR_mem p l y).1 hy with hy | rfl
      · exact h.1 y hy
      · exact h1
    · rename_i h1
      split
      · exact List.pairwise_cons.2 h
      · rename_i h2
        have hpx : ltP p x = true := by
          cases hc : ltP p x with
          | true => rfl
          | false => exact absurd (totP x p (by simpa using h1) hc) h2
        rw [List.pairwise_cons]
        refine ⟨fun y hy => ?_, List.pairwise_cons.2 h⟩
        rcases List.mem_cons.1 hy with rfl | hy
        · exact hpx
        · exact swoP.trans _ _ _ hpx (h.1 y hy)
theorem diffR_spec (own other : List S81) : ∀ (l : List S81) (out : List Pl), out.Pairwise (fun x y => ltP x y = true) →
    (l.foldl (diffStep own other) out).Pairwise (fun x y => ltP x y = true) ∧ ∀ q, q ∈ l.foldl (diffStep own other) out ↔ q ∈ out ∨ ∃ x ∈ l, pOf x = q ∧ sameR own other q = false
  | [], out, h => ⟨h, fun q => by simp⟩
  | x :: l, out, h => by
    rw [List.foldl_cons]
    by_cases c : sameR own other (pOf x) = true
    · have e : diffStep own other out x = out := by unfold diffStep; rw [if_pos c]
      rw [e]
      obtain ⟨h1, h2⟩ := diffR_spec own other l out h
      refine ⟨h1, fun q => (h2 q).trans ?_⟩
      constructor
      · rintro (h | ⟨y, hy, h3⟩)
        · exact .inl h
        · exact .inr ⟨y, List.mem_cons_of_mem _ hy, h3⟩
      · rintro (h | ⟨y, hy, h3, h4⟩)
        · exact .inl h
        · rcases List.mem_cons.1 hy with rfl | hy
          · rw [h3, h4] at c; cases c
          · exact .inr ⟨y, hy, h3, h4⟩
    · have e : diffStep own other out x = insR out (pOf x) := by unfold diffStep; rw [if_neg c]
      rw [e]
      obtain ⟨h1, h2⟩ := diffR_spec own other l (insR out (pOf x)) (insR_sorted _ _ h)
      refine ⟨h1, fun q => (h2 q).trans ?_⟩
      rw [insR_mem]
      constructor
      · rintro ((h | rfl) | ⟨y, hy, h3⟩)
        · exact .inl h
        · exact .inr ⟨x, List.mem_cons_self, rfl, by simpa using c⟩
        · exact .inr ⟨y, List.mem_cons_of_mem _ hy, h3⟩
      · rintro (h | ⟨y, hy, h3, h4⟩)
        · exact .inl (.inl h)
        · rcases List.mem_cons.1 hy with rfl | hy
          · exact .inl (.inr h3.symm)
          · exact .inr ⟨y, hy, h3, h4⟩
theorem sorted_ext {α : Type} {lt : α → α → Bool} (hS : SWO lt) : ∀ (l1 l2 : List α), l1.Pairwise (fun x y => lt x y = true) → l2.Pairwise (fun x y => lt x y = true) → (∀ q, q ∈ l1 ↔ q ∈ l2) → l1 = l2
  | [], [], _, _, _ => rfl
  | [], b :: l2, _, _, h => absurd ((h b).2 List.mem_cons_self) (by simp)
  | a :: l1, [], _, _, h => absurd ((h a).1 List.mem_cons_self) (by simp)
  | a :: l1, b :: l2, h1, h2, h => by
    rw [List.pairwise_cons] at h1 h2
    have hab : a = b := by
      rcases List.mem_cons.1 ((h a).1 List.mem_cons_self) with e | e
      · exact e
      · rcases List.mem_cons.1 ((h b).2 List.mem_cons_self) with e' | e'
        · exact e'.symm
        · have k1 := h2.1 a e
          have k2 := h1.1 b e'
          have k3 := hS.trans _ _ _ k1 k2
          rw [hS.irrefl] at k3
          cases k3
    subst hab
    congr 1
    refine sorted_ext hS l1 l2 h1.2 h2.2 fun q => ?_
    have hq := h q
    simp only [List.mem_cons] at hq
    constructor
    · intro hm
      rcases hq.1 (.inr hm) with rfl | hm'
      · have := h1.1 q hm; rw [hS.irrefl] at this; cases this
      · exact hm'
    · intro hm
      rcases hq.2 (.inr hm) with rfl | hm'
      · have := h2.1 q hm; rw [hS.irrefl] at this; cases this
      · exact hm'

theorem al_placed (p : Pl) : ∀ (l : List S81) (m : List (Pl × Kp)), al p (l.foldl seen1 m) = match al p m with
    | some v => some v
    | none => if (firstR l p).2.2.2.2 = true then some ((firstR l p).2.2.1, (firstR l p).2.2.2.1) else none
  | [], m => by
    simp only [List.foldl_nil, firstR]
    cases al p m <;> simp
  | x :: l, m => by
    rw [List.foldl_cons, al_placed p l, show firstR (x :: l) p = if pOf x = p then (x.f0, x.f1, x.f2, x.f3, true) else firstR l p from rfl]
    unfold seen1
    by_cases e : pOf x = p
    · have e' : (x.f0, x.f1) = p := e
      rw [if_pos e, e']
      cases h : al p m with
      | none => simp [al_put]
      | some v => simp [h]
    · have e' : ¬ p = (x.f0, x.f1) := fun h => e h.symm
      rw [if_neg e]
      cases h : al (x.f0, x.f1) m with
      | none =>
        simp only [al_put, if_neg e']
      | some v => simp only []
theorem placed_nodup : ∀ (l : List S81) (m : List (Pl × Kp)), (m.map (·.1)).Nodup → ((l.foldl seen1 m).map (·.1)).Nodup
  | [], m, h => h
  | x :: l, m, h => by
    rw [List.foldl_cons]
    refine placed_nodup l _ ?_
    unfold seen1
    split
    · exact put_nodup _ _ h
    · exact h
theorem first_flag (p : Pl) : ∀ l : List S81, (firstR l p).2.2.2.2 = true ↔ ∃ x ∈ l, pOf x = p
  | [] => by simp [firstR]
  | x :: l => by
    unfold firstR
    by_cases e : pOf x = p
    · simp [e]
    · rw [if_neg e, first_flag p l]
      simp [e]
theorem same_same (own other : List S81) (p : Pl) (k : Kp) (h : al p (placedL other) = some k) : same1 (placedL own) p k = sameR own other p := by
  have h1 := al_placed p other []
  have h2 := al_placed p own []
  simp only [al] at h1 h2
  unfold placedL at h
  rw [h] at h1
  unfold same1 sameR placedL
  rw [h2]
  by_cases c1 : (firstR other p).2.2.2.2 = true
  · rw [if_pos c1] at h1
    obtain rfl := Option.some.inj h1
    by_cases c2 : (firstR own p).2.2.2.2 = true
    · rw [if_pos c2, c2]
      simp only [Bool.true_and]
      rw [Bool.beq_comm (a := (firstR own p).2.2.1), Bool.beq_comm (a := (firstR own p).2.2.2.1)]
    · rw [if_neg c2, Bool.eq_false_iff.2 c2]
      rfl
  · rw [if_neg c1] at h1
    cases h1
theorem diffM_mem (own other : List S81) (p : Pl) : p ∈ (diffM own other).map (·.1) ↔ (∃ x ∈ other, pOf x = p) ∧ sameR own other p = false := by
  have hn : ((placedL other).map (·.1)).Nodup := placed_nodup other [] (by simp)
  have h1 := al_placed p other []
  simp only [al] at h1
  unfold diffM
  simp only [List.mem_map, List.mem_filter]
  constructor
  · rintro ⟨⟨p', k⟩, ⟨hm, hs⟩, rfl⟩
    have ha := al_of_mem hn hm
    rw [same_same own other p' k ha] at hs
    refine ⟨?_, by simpa using hs⟩
    rw [← first_flag]
    unfold placedL at ha
    rw [ha] at h1
    by_cases c : (firstR other p').2.2.2.2 = true
    · exact c
    · rw [if_neg c] at h1; cases h1
  · rintro ⟨hx, hs⟩
    rw [← first_flag] at hx
    rw [if_pos hx] at h1
    have hm := al_mem _ _ _ h1
    refine ⟨(p, _), ⟨hm, ?_⟩, rfl⟩
    rw [same_same own other p _ h1, hs]
    rfl
theorem sortP_strict {l : List Pl} (hn : l.Nodup) : (sortP l).Pairwise fun x y => ltP x y = true := by
  have hp := List.pairwise_mergeSort (le := fun x y : Pl => !ltP y x) (fun a b c h1 h2 => by
    simp only [Bool.not_eq_true'] at h1 h2 ⊢
    exact swoP.ntrans c b a h2 h1) (fun a b => by
      cases h : ltP b a with
      | false => simp
      | true => simp [swoP.asymmA h]) l
  have hd : (sortP l).Nodup := (List.mergeSort_perm l _).nodup_iff.2 hn
  refine (hp.and hd).imp fun {a b} h => ?_
  cases hc : ltP a b with
  | true => rfl
  | false => exact absurd (totP a b hc (by simpa using h.1)) h.2
theorem diffR_eq (own other : List S81) : diffR own other = diffL own other := by
  have hn : ((placedL other).map (·.1)).Nodup := placed_nodup other [] (by simp)
  have hd : ((diffM own other).map (·.1)).Nodup := List.Nodup.sublist (List.Sublist.map _ List.filter_sublist) hn
  obtain ⟨h1, h2⟩ := diffR_spec own other other [] (by simp)
  refine sorted_ext swoP _ _ h1 (sortP_strict hd) fun q => ?_
  refine (h2 q).trans ?_
  unfold diffL
  rw [(List.mergeSort_perm _ _).mem_iff (a := q) |> fun h => (show q ∈ sortP _ ↔ _ from h), diffM_mem]
  simp only [List.not_mem_nil, false_or]
  constructor
  · rintro ⟨x, hx, rfl, hs⟩
    exact ⟨⟨x, hx, rfl⟩, hs⟩
  · rintro ⟨⟨x, hx, rfl⟩, hs⟩
    exact ⟨x, hx, rfl, hs⟩

#print axioms diffF
#print axioms diffR_eq
end Go.Proofs.Ytdkhaohjfclceaa.Rp
