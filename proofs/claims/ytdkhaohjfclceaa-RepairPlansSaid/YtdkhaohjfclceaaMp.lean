/- Maps of the model as lists of pairs, over any program: look-up, store, delete, length, range. -/
import Derived.Maps.RangeRun
import Derived.OwnWalk
import Derived.WalkKit
import Derived.Deep.Draws
import Derived.Laws.StructEq
import Derived.Maps.OwnRows
import Derived.Maps.OwnSet
import Derived.Maps.RangeWalk
import Derived.Maps.OwnOps
import Derived.OwnWalkIn
import Derived.Maps.OwnIn
import Derived.RangeFuncSeq
set_option linter.unusedVariables false
set_option linter.unusedSimpArgs false
namespace Go.Proofs.Ytdkhaohjfclceaa.Mp
open Go.ChangeMaps (setBlock)
open Go.RowKit

theorem toList_eq_iff (a b : ByteArray) : (a.toList == b.toList) = decide (a = b) := by
  rw [ByteArray.toList_eq, ByteArray.toList_eq, Bool.eq_iff_iff, beq_iff_eq, decide_eq_true_iff]
  constructor
  · intro h
    cases a; cases b
    simp at h
    rw [h]
  · rintro rfl
    rfl
theorem beq_self_bytes (a : ByteArray) : (a == a) = true := by
  rw [beq_toListBytes]
  simp
instance : LawfulBEq ByteArray where
  eq_of_beq {a b} h := by
    rw [beq_toListBytes, toList_eq_iff] at h
    exact of_decide_eq_true h
  rfl {a} := beq_self_bytes a

section plain
variable {κ β : Type} [DecidableEq κ]
/-- where a key stands, and what with. -/
def pos (k : κ) : List (κ × β) → Nat → Option (Nat × β)
  | [], _ => none
  | p :: l, i => if k = p.1 then some (i, p.2) else pos k l (i + 1)
/-- what stands with a key. -/
def al (k : κ) : List (κ × β) → Option β
  | [] => none
  | p :: l => if k = p.1 then some p.2 else al k l
def put (k : κ) (v : β) : List (κ × β) → List (κ × β)
  | [] => [(k, v)]
  | p :: l => if k = p.1 then (k, v) :: l else p :: put k v l
def del (k : κ) (l : List (κ × β)) : List (κ × β) := l.filter fun p => !decide (p.1 = k)

theorem pos_al (k : κ) : ∀ (l : List (κ × β)) (i : Nat), (pos k l i).map (·.2) = al k l
  | [], _ => rfl
  | p :: l, i => by
    unfold pos al
    split
    · rfl
    · exact pos_al k l (i + 1)
theorem pos_shift (k : κ) : ∀ (l : List (κ × β)) (i : Nat), pos k l i = (pos k l 0).map fun q => (i + q.1, q.2)
  | [], _ => rfl
  | p :: l, i => by
    unfold pos
    split
    · simp
    · rw [pos_shift k l (i + 1), pos_shift k l (0 + 1)]
      cases pos k l 0 with
      | none => rfl
      | some q => simp; omega
theorem pos_spec (k : κ) : ∀ (l : List (κ × β)) (i : Nat) (j : Nat) (v : β), pos k l i = some (j, v) → ∃ m, j = i + m ∧ l[m]? = some (k, v)
  | [], _, _, _, h => by cases h
  | p :: l, i, j, v, h => by
    unfold pos at h
    split at h
    · rename_i e
      injection h with h; injection h with h1 h2
      subst h1; subst h2; subst e
      exact ⟨0, rfl, rfl⟩
    · obtain ⟨m, hm, hl⟩ := pos_spec k l (i + 1) j v h
      exact ⟨m + 1, by omega, by simpa using hl⟩
theorem pos_none (k : κ) : ∀ (l : List (κ × β)) (i : Nat), pos k l i = none → ∀ p ∈ l, p.1 ≠ k
  | [], _, _, p, hp => by cases hp
  | q :: l, i, h, p, hp => by
    unfold pos at h
    split at h
    · cases h
    · rename_i e
      rcases List.mem_cons.1 hp with rfl | hp
      · exact fun e' => e e'.symm
      · exact pos_none k l (i + 1) h p hp
theorem put_pos (k : κ) (v : β) : ∀ (l : List (κ × β)) (m : Nat) (u : β), pos k l 0 = some (m, u) → put k v l = l.set m (k, v)
  | [], _, _, h => by cases h
  | p :: l, m, u, h => by
    unfold pos at h
    unfold put
    split at h
    · rename_i e
      rw [if_pos e]
      injection h with h; injection h with h1 h2
      subst h1
      rfl
    · rename_i e
      rw [if_neg e]
      rw [pos_shift] at h
      cases hp : pos k l 0 with
      | none => rw [hp] at h; cases h
      | some q =>
        rw [hp] at h
        simp at h
        obtain ⟨h1, h2⟩ := h
        subst h1
        rw [put_pos k v l q.1 q.2 hp, show 1 + q.1 = q.1 + 1 by omega]
        rfl
theorem put_none (k : κ) (v : β) : ∀ (l : List (κ × β)), pos k l 0 = none → put k v l = l ++ [(k, v)]
  | [], _ => rfl
  | p :: l, h => by
    unfold pos at h
    unfold put
    split at h
    · cases h
    · rename_i e
      rw [if_neg e]
      rw [pos_shift] at h
      have h' : pos k l 0 = none := by
        cases hp : pos k l 0 with
        | none => rfl
        | some q => rw [hp] at h; cases h
      rw [put_none k v l h']
      rfl
theorem put_keys (k : κ) (v : β) : ∀ (l : List (κ × β)), (put k v l).map (·.1) = if k ∈ l.map (·.1) then l.map (·.1) else l.map (·.1) ++ [k]
  | [] => by simp [put]
  | p :: l => by
    unfold put
    by_cases e : k = p.1
    · rw [if_pos e]
      subst e
      simp
    · rw [if_neg e, List.map_cons, put_keys k v l]
      by_cases hm : k ∈ l.map (·.1)
      · rw [if_pos hm, if_pos (by simp only [List.map_cons]; exact List.mem_cons_of_mem _ hm)]
        rfl
      · rw [if_neg hm, if_neg (by simp only [List.map_cons, List.mem_cons, not_or]; exact ⟨e, hm⟩)]
        rfl
theorem put_nodup (k : κ) (v : β) {l : List (κ × β)} (h : (l.map (·.1)).Nodup) : ((put k v l).map (·.1)).Nodup := by
  rw [put_keys]
  split
  · exact h
  · rename_i hm
    rw [List.nodup_append]
    exact ⟨h, by simp, fun a ha b hb => by simp at hb; subst hb; exact fun e => hm (e ▸ ha)⟩
theorem al_put (k k' : κ) (v : β) : ∀ (l : List (κ × β)), al k' (put k v l) = if k' = k then some v else al k' l
  | [] => by
    simp only [put, al]
  | p :: l => by
    unfold put
    by_cases e : k = p.1
    · rw [if_pos e]
      subst e
      simp only [al]
      split <;> rfl
    · rw [if_neg e]
      simp only [al]
      rw [al_put k k' v l]
      by_cases e1 : k' = p.1
      · subst e1
        rw [if_pos rfl, if_pos rfl, if_neg (fun h => e h.symm)]
      · rw [if_neg e1, if_neg e1]
theorem al_mem (k : κ) (v : β) : ∀ (l : List (κ × β)), al k l = some v → (k, v) ∈ l
  | [], h => by cases h
  | p :: l, h => by
    unfold al at h
    split at h
    · rename_i e
      injection h with h
      subst e; subst h
      exact List.mem_cons_self
    · exact List.mem_cons_of_mem _ (al_mem k v l h)
theorem al_none (k : κ) : ∀ (l : List (κ × β)), al k l = none ↔ k ∉ l.map (·.1)
  | [] => by simp [al]
  | p :: l => by
    unfold al
    split
    · rename_i e
      simp [e]
    · rename_i e
      rw [al_none k l]
      simp only [List.map_cons, List.mem_cons, not_or]
      exact ⟨fun h => ⟨e, h⟩, fun h => h.2⟩
theorem al_of_mem {l : List (κ × β)} (hn : (l.map (·.1)).Nodup) {k : κ} {v : β} (h : (k, v) ∈ l) : al k l = some v := by
  induction l with
  | nil => cases h
  | cons p l ih =>
    simp only [List.map_cons, List.nodup_cons] at hn
    unfold al
    rcases List.mem_cons.1 h with e | h
    · subst e
      rw [if_pos rfl]
    · rw [if_neg (fun e => hn.1 (by rw [← e]; exact List.mem_map.2 ⟨_, h, rfl⟩)), ih hn.2 h]
theorem al_cons (k : κ) (p : κ × β) (l : List (κ × β)) : al k (p :: l) = if k = p.1 then some p.2 else al k l := rfl
theorem al_filter (q : κ → Bool) (k : κ) : ∀ (l : List (κ × β)), al k (l.filter fun p => q p.1) = if q k = true then al k l else none
  | [] => by simp [al]
  | p :: l => by
    by_cases hq : q p.1 = true
    · rw [List.filter_cons_of_pos (by simpa using hq), al_cons, al_cons, al_filter q k l]
      by_cases e : k = p.1
      · subst e
        rw [if_pos rfl, if_pos hq, if_pos rfl]
      · rw [if_neg e, if_neg e]
    · rw [List.filter_cons_of_neg (by simpa using hq), al_filter q k l, al_cons]
      by_cases e : k = p.1
      · subst e
        rw [if_neg hq, if_neg hq]
      · rw [if_neg e]
theorem al_del (k k' : κ) (l : List (κ × β)) : al k' (del k l) = if k' = k then none else al k' l := by
  have h := al_filter (fun x => !decide (x = k)) k' l
  unfold del
  rw [h]
  by_cases e : k' = k
  · simp [e]
  · simp [e]
theorem del_nodup {k : κ} {l : List (κ × β)} (h : (l.map (·.1)).Nodup) : ((del k l).map (·.1)).Nodup :=
  h.sublist (List.Sublist.map _ List.filter_sublist)
theorem del_pos (k : κ) : ∀ (l : List (κ × β)) (m : Nat) (u : β), (l.map (·.1)).Nodup → pos k l 0 = some (m, u) → del k l = l.eraseIdx m
  | [], _, _, _, h => by cases h
  | p :: l, m, u, hn, h => by
    simp only [List.map_cons, List.nodup_cons] at hn
    unfold pos at h
    split at h
    · rename_i e
      injection h with h; injection h with h1 h2
      subst h1
      unfold del
      rw [List.filter_cons_of_neg (by simp [e])]
      rw [List.filter_eq_self.2 ?_]
      · rfl
      · intro q hq
        simp
        intro e'
        exact hn.1 (e ▸ e' ▸ List.mem_map.2 ⟨q, hq, rfl⟩)
    · rename_i e
      rw [pos_shift] at h
      cases hp : pos k l 0 with
      | none => rw [hp] at h; cases h
      | some q =>
        rw [hp] at h
        simp at h
        obtain ⟨h1, h2⟩ := h
        subst h1
        unfold del
        rw [List.filter_cons_of_pos (by simp; exact fun e' => e e'.symm), show 1 + q.1 = q.1 + 1 by omega, List.eraseIdx_cons_succ, ← del_pos k l q.1 q.2 hn.2 hp]
        rfl
theorem del_none (k : κ) (l : List (κ × β)) (h : pos k l 0 = none) : del k l = l := by
  unfold del
  rw [List.filter_eq_self]
  intro p hp
  simpa using pos_none k l 0 h p hp
end plain

section
variable {κ : Type} {enc : κ → Value}
/-- Block b is a map that holds just these pairs, in the order in which they came. -/
def MapV (enc : κ → Value) (w : World) (b : Nat) (l : List (κ × Value)) : Prop :=
  ∃ es clock, w.heap[b]? = some (.map es clock) ∧ es.toList.map (fun e => (e.key, e.val)) = l.map (fun p => (enc p.1, p.2)) ∧ (l.map (·.1)).Nodup ∧
    (es.toList.map (·.born)).Pairwise (· < ·) ∧ ∀ e ∈ es.toList, e.born < clock

section
variable {w w' : World} {b : Nat} {l : List (κ × Value)}
theorem MapV.lt (h : MapV enc w b l) : b < w.heap.size := by
  obtain ⟨es, clock, hb, _⟩ := h
  exact (Array.getElem?_eq_some_iff.1 hb).1
theorem MapV.nodup (h : MapV enc w b l) : (l.map (·.1)).Nodup := by
  obtain ⟨_, _, _, _, hn, _⟩ := h
  exact hn
theorem MapV.move (h : MapV enc w b l) (hb : w'.heap[b]? = w.heap[b]?) : MapV enc w' b l := by
  obtain ⟨es, clock, h1, h2⟩ := h
  exact ⟨es, clock, hb.trans h1, h2⟩
theorem MapV.below {B : Nat} (h : MapV enc w b l) (hb : Below B w w') (hlt : b < B) : MapV enc w' b l := h.move (hb.block b hlt)
theorem MapV.grown {row : Option Nat} (h : MapV enc w b l) (hg : w.grownBy w' row) (hne : some b ≠ row) : MapV enc w' b l := h.move (hg.block b h.lt hne)
theorem MapV.alloc (h : MapV enc w b l) (o : Obj) : MapV enc (w.alloc o) b l := h.move (Below.heap_alloc _ _ b h.lt)
theorem MapV.drew (h : MapV enc w b l) : MapV enc w.drew b l := h
theorem MapV.drewN (h : MapV enc w b l) (n : Nat) : MapV enc (w.drewN n) b l := h
theorem MapV.made (enc : κ → Value) (w : World) : MapV enc (w.alloc (.map #[] 0)) w.heap.size [] :=
  ⟨#[], 0, heap_alloc_new w _, rfl, by simp, by simp, by simp⟩
theorem MapV.size (h : MapV enc w b l) : ∃ es clock, w.heap[b]? = some (.map es clock) ∧ es.size = l.length := by
  obtain ⟨es, clock, h1, h2, _⟩ := h
  refine ⟨es, clock, h1, ?_⟩
  have := congrArg List.length h2
  simpa using this
end

variable {P : Program}
/-- Block r walks over map b; 'left' is still to come. -/
def Walks (enc : κ → Value) (w : World) (r b : Nat) (l left : List (κ × Value)) : Prop :=
  ∃ es clock since seen c0, w.heap[b]? = some (.map es clock) ∧ es.toList.map (fun e => (e.key, e.val)) = l.map (fun p => (enc p.1, p.2)) ∧ (l.map (·.1)).Nodup ∧
    (es.toList.map (·.born)).Pairwise (· < ·) ∧ (∀ e ∈ es.toList, e.born < clock) ∧ w.heap[r]? = some (.mapIter (some b) since seen c0) ∧ (∀ e ∈ es.toList, e.born < since) ∧ since ≤ c0 ∧ since ≤ clock ∧
    (es.toList.filter fun e => !seen.contains e.born).map (fun e => (e.key, e.val)) = left.map (fun p => (enc p.1, p.2)) ∧ left.Sublist l

theorem Walks.map {w : World} {r b : Nat} {l left : List (κ × Value)} (h : Walks enc w r b l left) : MapV enc w b l := by
  obtain ⟨es, clock, since, seen, c0, h1, h2, h3, h4, h5, _⟩ := h
  exact ⟨es, clock, h1, h2, h3, h4, h5⟩
theorem Walks.lt {w : World} {r b : Nat} {l left : List (κ × Value)} (h : Walks enc w r b l left) : r < w.heap.size := by
  obtain ⟨es, clock, since, seen, c0, h1, h2, h3, h4, h5, h6, _⟩ := h
  exact (Array.getElem?_eq_some_iff.1 h6).1
theorem Walks.sub {w : World} {r b : Nat} {l left : List (κ × Value)} (h : Walks enc w r b l left) : left.Sublist l := by
  obtain ⟨es, clock, since, seen, c0, h1, h2, h3, h4, h5, h6, h7, h8, h9, h10, h11⟩ := h
  exact h11
theorem Walks.ne {w : World} {r b : Nat} {l left : List (κ × Value)} (h : Walks enc w r b l left) : r ≠ b := by
  obtain ⟨es, clock, since, seen, c0, h1, h2, h3, h4, h5, h6, _⟩ := h
  rintro rfl
  rw [h1] at h6
  cases h6
theorem Walks.iter {w : World} {r b : Nat} {l left : List (κ × Value)} (h : Walks enc w r b l left) : ∃ (m : Option Nat) (s : Nat) (seen : Array Nat) (c : Nat), w.heap[r]? = some (Obj.mapIter m s seen c) := by
  obtain ⟨es, clock, since, seen, c0, h1, h2, h3, h4, h5, h6, _⟩ := h
  exact ⟨_, _, _, _, h6⟩
theorem Walks.move {w w' : World} {r b : Nat} {l left : List (κ × Value)} (h : Walks enc w r b l left) (hb : w'.heap[b]? = w.heap[b]?) (hr : w'.heap[r]? = w.heap[r]?) : Walks enc w' r b l left := by
  obtain ⟨es, clock, since, seen, c0, h1, h2, h3, h4, h5, h6, h7⟩ := h
  exact ⟨es, clock, since, seen, c0, hb.trans h1, h2, h3, h4, h5, hr.trans h6, h7⟩
theorem Walks.grown {w w' : World} {r b : Nat} {l left : List (κ × Value)} {row : Option Nat} (h : Walks enc w r b l left) (hg : w.grownBy w' row) (h1 : some b ≠ row) (h2 : some r ≠ row) : Walks enc w' r b l left :=
  h.move (hg.block b h.map.lt h1) (hg.block r h.lt h2)
theorem Walks.below {B : Nat} {w w' : World} {r b : Nat} {l left : List (κ × Value)} (h : Walks enc w r b l left) (hg : Below B w w') (h1 : b < B) (h2 : r < B) : Walks enc w' r b l left :=
  h.move (hg.block b h1) (hg.block r h2)
theorem Walks.alloc {w : World} {r b : Nat} {l left : List (κ × Value)} (h : Walks enc w r b l left) (o : Obj) : Walks enc (w.alloc o) r b l left := h.move (Below.heap_alloc _ _ b h.map.lt) (Below.heap_alloc _ _ r h.lt)

theorem run_range {kt t et : TypeId} (ht : P.underlying t = some (.map kt et)) {w : World} {b : Nat} {l : List (κ × Value)} (hm : MapV enc w b l) :
    ∃ w', (Instr.range t (.map (some b))).run P w = .ok (.pointer (some ⟨w.heap.size, 0, none⟩)) w' ∧ Walks enc w' w.heap.size b l l ∧ w.grownBy w' none ∧ w'.heap.size = w.heap.size + 1 := by
  have hlt := hm.lt
  obtain ⟨es, clock, hb, hes, hn, hp, hc⟩ := hm
  refine ⟨_, run_range_map w t kt et b es clock ht hb, ⟨es, clock, clock, #[], clock, (Below.heap_alloc _ _ b hlt).trans hb, hes, hn, hp, hc, heap_alloc_new w _, hc, Nat.le_refl _, Nat.le_refl _, ?_, List.Sublist.refl _⟩, World.grownBy_alloc w _ none, by simp⟩
  rw [List.filter_eq_self.2 (by simp)]
  exact hes

end

variable {P : Program} {κ : Type} [DecidableEq κ] {enc : κ → Value}

/-- What the model asks of a key's type. -/
structure KeyT (P : Program) (kt : TypeId) (κ : Type) [DecidableEq κ] (enc : κ → Value) : Prop where
  inj : ∀ a b, enc a = enc b → a = b
  check : ∀ e a w, (Instr.checkKey e 10000 kt (enc a)).run P w = .ok () w
  find : ∀ (k : κ) (es : List MapEntry) (l : List (κ × Value)) w, es.map (fun e => (e.key, e.val)) = l.map (fun p => (enc p.1, p.2)) → (Instr.findKey kt (enc k) es).run P w = .ok (pos k l 0) w
  same : ∀ a, Instr.sameBits 10000 (enc a) (enc a) = true

theorem run_findAsking {kt : TypeId} (he : ∀ (a b : κ) w, (Op.equal kt (enc a) (enc b)).run P w = .ok (decide (a = b)) w) (k : κ) : ∀ (es : List MapEntry) (l : List (κ × Value)) (i : Nat) (w : World),
    es.map (fun e => (e.key, e.val)) = l.map (fun p => (enc p.1, p.2)) → (Instr.findAsking kt (enc k) es i).run P w = .ok (pos k l i) w
  | [], [], _, _, _ => by simp [Instr.findAsking, pos]
  | [], _ :: _, _, _, h => by cases h
  | _ :: _, [], _, _, h => by cases h
  | e :: es, p :: l, i, w, h => by
    simp only [List.map_cons, List.cons.injEq, Prod.mk.injEq] at h
    obtain ⟨⟨h1, h2⟩, h3⟩ := h
    simp only [Instr.findAsking, Sem.run_bind, h1, he, Result.andThen_ok, pos]
    by_cases e1 : k = p.1
    · simp [e1, h2]
    · simp [e1]
      exact run_findAsking he k es l (i + 1) w h3

/-- A struct as a key: '==' field by field. -/
theorem KeyT.of_struct {kt : TypeId} {fs : Array Field} (hu : P.underlying kt = some (.struct fs)) (inj : ∀ a b, enc a = enc b → a = b)
    (he : ∀ (a b : κ) w, (Op.equal kt (enc a) (enc b)).run P w = .ok (decide (a = b)) w) (hc : ∀ e a w, (Instr.checkKey e 10000 kt (enc a)).run P w = .ok () w) (hs : ∀ a, Instr.sameBits 10000 (enc a) (enc a) = true) : KeyT P kt κ enc where
  inj := inj
  check := hc
  same := hs
  find := by
    intro k es l w h
    match es, l, h with
    | [], [], _ => simp [Instr.findKey, run_underlying hu, Instr.findNow, pos]
    | [], _ :: _, h => cases h
    | _ :: _, [], h => cases h
    | e :: es, p :: l, h =>
      simp only [Instr.findKey, Sem.run_bind, run_underlying hu, Result.andThen_ok, Instr.findNow, Instr.sameNow]
      exact run_findAsking he k (e :: es) (p :: l) 0 w h

theorem findNow_pos {d : TypeDesc} (hd : ∀ a b : κ, Instr.sameNow d (enc a) (enc b) = some (decide (a = b))) (k : κ) : ∀ (es : List MapEntry) (l : List (κ × Value)) (i : Nat),
    es.map (fun e => (e.key, e.val)) = l.map (fun p => (enc p.1, p.2)) → Instr.findNow d (enc k) es i = some (pos k l i)
  | [], [], _, _ => by simp [Instr.findNow, pos]
  | [], _ :: _, _, h => by cases h
  | _ :: _, [], _, h => by cases h
  | e :: es, p :: l, i, h => by
    simp only [List.map_cons, List.cons.injEq, Prod.mk.injEq] at h
    obtain ⟨⟨h1, h2⟩, h3⟩ := h
    simp only [Instr.findNow, h1, hd, pos]
    by_cases e1 : k = p.1
    · simp [e1, h2]
    · simp [e1]
      exact findNow_pos hd k es l (i + 1) h3
/-- A plain key: a whole number, a string. -/
theorem KeyT.of_now {kt : TypeId} {d : TypeDesc} (hu : P.underlying kt = some d) (inj : ∀ a b, enc a = enc b → a = b) (hd : ∀ a b : κ, Instr.sameNow d (enc a) (enc b) = some (decide (a = b)))
    (hc : ∀ e a w, (Instr.checkKey e 10000 kt (enc a)).run P w = .ok () w) (hs : ∀ a, Instr.sameBits 10000 (enc a) (enc a) = true) : KeyT P kt κ enc where
  inj := inj
  check := hc
  same := hs
  find := by
    intro k es l w h
    simp only [Instr.findKey, Sem.run_bind, run_underlying hu, Result.andThen_ok, findNow_pos hd k es l 0 h]
    simp

theorem grownBy_setBlock (w : World) (b : Nat) (o : Obj) : w.grownBy (setBlock w b o) (some b) :=
  ⟨rfl, rfl, rfl, by simp [setBlock], fun k _ hk => by
    simp only [setBlock]
    rw [Array.getElem?_setIfInBounds_ne]
    exact fun e => hk (by rw [e])⟩
theorem heap_setBlock {w : World} {b : Nat} (o : Obj) (h : b < w.heap.size) : (setBlock w b o).heap[b]? = some o := by simp [setBlock, h]
theorem run_getObj_map {w : World} {b : Nat} {es : Array MapEntry} {clock : Nat} (h : w.heap[b]? = some (.map es clock)) : (getObj b).run P w = .ok (.map es clock) w := by simp [getObj, Sem.run, h]
theorem run_setObj_map {w : World} {b : Nat} {es : Array MapEntry} {clock : Nat} (h : w.heap[b]? = some (.map es clock)) (o : Obj) : (setObj b o).run P w = .ok () (setBlock w b o) := by simp [setObj, Sem.run, h, setBlock]

theorem run_lookup {kt t et : TypeId} (K : KeyT P kt κ enc) (ht : P.underlying t = some (.map kt et)) {w : World} {z : Value} (hz : (zeroValue et).run P w = .ok z w) {b : Nat} {l : List (κ × Value)} (hm : MapV enc w b l) (k : κ) (c : Bool) :
    (Instr.lookup t (.map (some b)) (enc k) c).run P w = .ok (if c then .tuple #[(al k l).getD z, .bool (al k l).isSome] else (al k l).getD z) w := by
  obtain ⟨es, clock, hb, hes, hn, _⟩ := hm
  simp only [Instr.lookup, Sem.run_bind, run_underlying ht, Result.andThen_ok, run_getObj_map hb, Sem.run_pure, K.check, K.find k es.toList l _ hes]
  rw [← pos_al k l 0]
  cases hp : pos k l 0 with
  | none => cases c <;> simp [hz]
  | some q => cases c <;> simp
theorem run_lookup_nil {kt t et : TypeId} (K : KeyT P kt κ enc) (ht : P.underlying t = some (.map kt et)) {w : World} {z : Value} (hz : (zeroValue et).run P w = .ok z w) (k : κ) (c : Bool) :
    (Instr.lookup t (.map none) (enc k) c).run P w = .ok (if c then .tuple #[z, .bool false] else z) w := by
  simp only [Instr.lookup, Sem.run_bind, run_underlying ht, Result.andThen_ok, Sem.run_pure, K.check, K.find k [] [] _ rfl, pos]
  cases c <;> simp [hz]

theorem run_mapUpdate {kt t et : TypeId} (K : KeyT P kt κ enc) (ht : P.underlying t = some (.map kt et)) {w : World} {b : Nat} {l : List (κ × Value)} (hm : MapV enc w b l) (k : κ) (v : Value) :
    ∃ w', (Instr.mapUpdate t (.map (some b)) (enc k) v).run P w = .ok () w' ∧ MapV enc w' b (put k v l) ∧ w.grownBy w' (some b) ∧ w'.heap.size = w.heap.size := by
  have hlt := hm.lt
  obtain ⟨es, clock, hb, hes, hn, hp, hc⟩ := hm
  cases hq : pos k l 0 with
  | none =>
    refine ⟨setBlock w b (.map (es.push { key := enc k, val := v, born := clock }) (clock + 1)), ?_, ⟨_, _, heap_setBlock _ hlt, ?_, put_nodup k v hn, ?_, ?_⟩, grownBy_setBlock _ _ _, by simp [setBlock]⟩
    · simp only [Instr.mapUpdate, Sem.run_bind, run_underlying ht, Result.andThen_ok, run_getObj_map hb, K.check, K.find k es.toList l _ hes, hq, run_setObj_map hb]
    · rw [put_none k v l hq]
      simp [hes]
    · simp only [Array.toList_push, List.map_append, List.map_cons, List.map_nil]
      rw [List.pairwise_append]
      exact ⟨hp, by simp, fun x hx y hy => by
        obtain ⟨e, he, rfl⟩ := List.mem_map.1 hx
        simp at hy
        subst hy
        exact hc e he⟩
    · intro e he
      simp only [Array.toList_push, List.mem_append, List.mem_singleton] at he
      rcases he with he | rfl
      · have := hc e he; omega
      · simp
  | some q =>
    obtain ⟨m, hm1, hm2⟩ := pos_spec k l 0 q.1 q.2 hq
    obtain rfl : q.1 = m := by omega
    have hlen : es.toList.length = l.length := by have := congrArg List.length hes; simpa using this
    have hml : q.1 < l.length := (List.getElem?_eq_some_iff.1 hm2).1
    have hme : q.1 < es.size := by simpa [← hlen] using hml
    have hkey : es[q.1].key = enc k := by
      have h1 : (es.toList.map (fun e => (e.key, e.val)))[q.1]? = (l.map (fun p => (enc p.1, p.2)))[q.1]? := by rw [hes]
      rw [List.getElem?_map, List.getElem?_map, hm2] at h1
      simp [hme] at h1
      exact h1.1
    have hstay : (Instr.keyThatStays (((es[q.1]?).map (·.key)).getD (enc k)) (enc k)).run P w = .ok (enc k) w := by
      simp [Instr.keyThatStays, hme, hkey, K.same]
    refine ⟨setBlock w b (.map (es.modify q.1 fun e => { e with key := enc k, val := v }) clock), ?_, ⟨_, _, heap_setBlock _ hlt, ?_, put_nodup k v hn, ?_, ?_⟩, grownBy_setBlock _ _ _, by simp [setBlock]⟩
    · simp only [Instr.mapUpdate, Sem.run_bind, run_underlying ht, Result.andThen_ok, run_getObj_map hb, K.check, K.find k es.toList l _ hes, hq, hstay, run_setObj_map hb]
    · rw [put_pos k v l q.1 q.2 hq, List.map_set, ← hes]
      apply List.ext_getElem?
      intro i
      simp only [List.getElem?_map, List.getElem?_set, Array.getElem?_toList, Array.getElem?_modify, List.length_map, Array.length_toList]
      by_cases hi : q.1 = i
      · subst hi
        simp [hme]
      · simp [hi]
    · have : (es.modify q.1 fun e => { e with key := enc k, val := v }).toList.map (·.born) = es.toList.map (·.born) := by
        apply List.ext_getElem?
        intro i
        simp only [List.getElem?_map, Array.getElem?_toList, Array.getElem?_modify]
        by_cases hi : q.1 = i
        · subst hi
          simp [hme]
        · simp [hi]
      rw [this]
      exact hp
    · intro e he
      obtain ⟨i, hi, rfl⟩ := List.mem_iff_getElem.1 he
      have hi' : i < es.size := by simpa using hi
      simp only [Array.getElem_toList, Array.getElem_modify]
      split
      · exact hc es[i] (by simp)
      · exact hc es[i] (by simp)


theorem run_delete {kt t et ty : TypeId} (K : KeyT P kt κ enc) (ht : P.underlying t = some (.map kt et)) {w : World} {b : Nat} {l : List (κ × Value)} (hm : MapV enc w b l) (k : κ) (u : TypeId) :
    ∃ w', (Builtin.delete_ #[t, u] ty #[.map (some b), enc k]).run P w = .ok (.tuple #[]) w' ∧ MapV enc w' b (del k l) ∧ w.grownBy w' (some b) ∧ w'.heap.size = w.heap.size ∧
      ∀ (r : Nat) (m : Option Nat) (s : Nat) (seen : Array Nat) (c : Nat), w.heap[r]? = some (Obj.mapIter m s seen c) → w'.heap[r]? = some (Obj.mapIter m s seen c) := by
  have hlt := hm.lt
  obtain ⟨es, clock, hb, hes, hn, hp, hc⟩ := hm
  have hne : ∀ (r : Nat) (m : Option Nat) (s : Nat) (seen : Array Nat) (c : Nat) (o : Obj), w.heap[r]? = some (.mapIter m s seen c) → (setBlock w b o).heap[r]? = some (.mapIter m s seen c) := by
    intro r m s seen c o hr
    have : b ≠ r := fun e => by subst e; rw [hb] at hr; cases hr
    simp only [setBlock]
    rw [Array.getElem?_setIfInBounds_ne this]
    exact hr
  cases hq : pos k l 0 with
  | none =>
    refine ⟨setBlock w b (.map es clock), ?_, ⟨_, _, heap_setBlock _ hlt, ?_, del_nodup hn, hp, hc⟩, grownBy_setBlock _ _ _, by simp [setBlock], fun r m s seen c hr => hne _ _ _ _ _ _ hr⟩
    · simp [Builtin.delete_, run_underlying ht, run_getObj_map hb, K.check, K.find k es.toList l _ hes, hq, run_setObj_map hb]
    · rw [del_none k l hq]
      exact hes
  | some q =>
    obtain ⟨m, hm1, hm2⟩ := pos_spec k l 0 q.1 q.2 hq
    obtain rfl : q.1 = m := by omega
    have hsub : (es.eraseIdxIfInBounds q.1).toList.Sublist es.toList := by
      rw [Array.toList_eraseIdxIfInBounds]
      exact List.eraseIdx_sublist _ _
    refine ⟨setBlock w b (.map (es.eraseIdxIfInBounds q.1) clock), ?_, ⟨_, _, heap_setBlock _ hlt, ?_, del_nodup hn, hp.sublist (hsub.map _), fun e he => hc e (hsub.subset he)⟩, grownBy_setBlock _ _ _, by simp [setBlock], fun r m s seen c hr => hne _ _ _ _ _ _ hr⟩
    · simp [Builtin.delete_, run_underlying ht, run_getObj_map hb, K.check, K.find k es.toList l _ hes, hq, run_setObj_map hb]
    · rw [del_pos k l q.1 q.2 hn hq, Array.toList_eraseIdxIfInBounds, Go.ChangeMaps.map_eraseIdx, hes, Go.ChangeMaps.map_eraseIdx]

theorem filter_eraseIdx {α : Type} (p : α → Bool) : ∀ (L : List α) (i : Nat) (x : α), L[i]? = some x → p x = false → (L.eraseIdx i).filter p = L.filter p
  | [], _, _, h, _ => by cases h
  | y :: L, 0, x, h, hp => by
    simp at h
    subst h
    rw [List.eraseIdx_cons_zero, List.filter_cons_of_neg (by simp [hp])]
  | y :: L, i + 1, x, h, hp => by
    rw [List.eraseIdx_cons_succ, List.filter_cons, List.filter_cons, filter_eraseIdx p L i x (by simpa using h) hp]
/-- 'delete' of what has come already, inside a range. -/
theorem run_delete_walks {kt t et ty : TypeId} (K : KeyT P kt κ enc) (ht : P.underlying t = some (.map kt et)) {w : World} {r b : Nat} {l left : List (κ × Value)} (h : Walks enc w r b l left) (k : κ) (hk : k ∉ left.map (·.1)) (u : TypeId) :
    ∃ w', (Builtin.delete_ #[t, u] ty #[.map (some b), enc k]).run P w = .ok (.tuple #[]) w' ∧ Walks enc w' r b (del k l) left ∧ w.grownBy w' (some b) ∧ w'.heap.size = w.heap.size := by
  have hrb := h.ne
  have hlt := h.map.lt
  obtain ⟨es, clock, since, seen, c0, hb, hes, hn, hp, hc, h6, h7, h8, h9, h10, h11⟩ := h
  have hleft : left.Sublist (del k l) := by
    have h1 : del k left = left := by
      unfold del
      rw [List.filter_eq_self]
      intro q hq
      simp
      rintro rfl
      exact hk (List.mem_map.2 ⟨q, hq, rfl⟩)
    have h2 := h11.filter (fun p => !decide (p.1 = k))
    unfold del at h1 ⊢
    rwa [h1] at h2
  have hr' : ∀ o, (setBlock w b o).heap[r]? = w.heap[r]? := fun o => by
    simp only [setBlock]
    rw [Array.getElem?_setIfInBounds_ne (fun e => hrb e.symm)]
  cases hq : pos k l 0 with
  | none =>
    refine ⟨setBlock w b (.map es clock), ?_, ⟨es, clock, since, seen, c0, heap_setBlock _ hlt, ?_, del_nodup hn, hp, hc, (hr' _).trans h6, h7, h8, h9, h10, hleft⟩, grownBy_setBlock _ _ _, by simp [setBlock]⟩
    · simp [Builtin.delete_, run_underlying ht, run_getObj_map hb, K.check, K.find k es.toList l _ hes, hq, run_setObj_map hb]
    · rw [del_none k l hq]
      exact hes
  | some q =>
    obtain ⟨m, hm1, hm2⟩ := pos_spec k l 0 q.1 q.2 hq
    obtain rfl : q.1 = m := by omega
    have hsub : (es.eraseIdxIfInBounds q.1).toList.Sublist es.toList := by
      rw [Array.toList_eraseIdxIfInBounds]
      exact List.eraseIdx_sublist _ _
    have hlen : es.toList.length = l.length := by have := congrArg List.length hes; simpa using this
    have hml : q.1 < l.length := (List.getElem?_eq_some_iff.1 hm2).1
    have hme : q.1 < es.toList.length := by omega
    have hkey : es.toList[q.1].key = enc k := by
      have h1 : (es.toList.map (fun e => (e.key, e.val)))[q.1]? = (l.map (fun p => (enc p.1, p.2)))[q.1]? := by rw [hes]
      rw [List.getElem?_map, List.getElem?_map, hm2, List.getElem?_eq_getElem hme] at h1
      simp only [Option.map_some, Option.some.injEq, Prod.mk.injEq] at h1
      exact h1.1
    have hseen : (!seen.contains (es.toList[q.1]).born) = false := by
      cases hs : (!seen.contains (es.toList[q.1]).born) with
      | false => rfl
      | true =>
        exfalso
        have hmem : es.toList[q.1] ∈ es.toList.filter (fun e => !seen.contains e.born) := List.mem_filter.2 ⟨List.getElem_mem _, hs⟩
        have h3 : (es.toList[q.1].key, es.toList[q.1].val) ∈ left.map (fun p => (enc p.1, p.2)) := by
          rw [← h10]
          exact List.mem_map.2 ⟨_, hmem, rfl⟩
        obtain ⟨p, hp1, hp2⟩ := List.mem_map.1 h3
        simp only [Prod.mk.injEq] at hp2
        have : p.1 = k := K.inj _ _ (hp2.1.trans hkey)
        exact hk (this ▸ List.mem_map.2 ⟨p, hp1, rfl⟩)
    refine ⟨setBlock w b (.map (es.eraseIdxIfInBounds q.1) clock), ?_, ⟨_, clock, since, seen, c0, heap_setBlock _ hlt, ?_, del_nodup hn, hp.sublist (hsub.map _), fun e he => hc e (hsub.subset he), (hr' _).trans h6, fun e he => h7 e (hsub.subset he), h8, h9, ?_, hleft⟩, grownBy_setBlock _ _ _, by simp [setBlock]⟩
    · simp [Builtin.delete_, run_underlying ht, run_getObj_map hb, K.check, K.find k es.toList l _ hes, hq, run_setObj_map hb]
    · rw [del_pos k l q.1 q.2 hn hq, Array.toList_eraseIdxIfInBounds, Go.ChangeMaps.map_eraseIdx, hes, Go.ChangeMaps.map_eraseIdx]
    · rw [Array.toList_eraseIdxIfInBounds, filter_eraseIdx _ _ _ _ (List.getElem?_eq_getElem hme) hseen, h10]

omit [DecidableEq κ] in
theorem run_len_map {ty tt kt et : TypeId} (ht : P.underlying tt = some (.map kt et)) {w : World} {b : Nat} {l : List (κ × Value)} (hm : MapV enc w b l) : (Builtin.len_ #[tt] ty #[.map (some b)]).run P w = .ok (.int .i64 l.length) w := by
  obtain ⟨es, clock, hb, hs⟩ := hm.size
  simp [Builtin.len_, run_underlying ht, run_getObj_map hb, hs, goInt]

theorem filter_left (inj : ∀ a b, enc a = enc b → a = b) : ∀ (L : List MapEntry) (left : List (κ × Value)) (n : Nat) (k : κ), L.map (fun e => (e.key, e.val)) = left.map (fun p => (enc p.1, p.2)) → (∀ x ∈ L, x.born = n ↔ x.key = enc k) →
    (L.filter (fun x => !decide (x.born = n))).map (fun e => (e.key, e.val)) = (del k left).map (fun p => (enc p.1, p.2))
  | [], [], _, _, _, _ => rfl
  | [], _ :: _, _, _, h, _ => by cases h
  | _ :: _, [], _, _, h, _ => by cases h
  | x :: L, p :: left, n, k, h10, hs => by
    simp only [List.map_cons, List.cons.injEq, Prod.mk.injEq] at h10
    obtain ⟨⟨ha, hb⟩, h10⟩ := h10
    have ihh := filter_left inj L left n k h10 (fun y hy => hs y (List.mem_cons_of_mem _ hy))
    have hsx := hs x List.mem_cons_self
    unfold del at ihh ⊢
    by_cases hx : x.born = n
    · have : p.1 = k := inj _ _ (by rw [← ha]; exact hsx.1 hx)
      rw [List.filter_cons_of_neg (by simpa using hx), List.filter_cons_of_neg (by simpa using this)]
      exact ihh
    · have : ¬ p.1 = k := fun e' => hx (hsx.2 (by rw [ha, e']))
      rw [List.filter_cons_of_pos (by simpa using hx), List.filter_cons_of_pos (by simpa using this), List.map_cons, List.map_cons, ihh, ha, hb]

theorem run_next {w : World} {r b : Nat} {l left : List (κ × Value)} (inj : ∀ a b, enc a = enc b → a = b) (h : Walks enc w r b l left) (ty : TypeId) :
    (left = [] ∧ (Instr.next (.pointer (some ⟨r, 0, none⟩)) false ty).run P w = .ok (.tuple #[.bool false]) w) ∨
    ∃ k v w', (k, v) ∈ left ∧ (Instr.next (.pointer (some ⟨r, 0, none⟩)) false ty).run P w = .ok (.tuple #[.bool true, enc k, v]) w' ∧ Walks enc w' r b l (del k left) ∧ w.grownBy w' (some r) ∧ w'.heap.size = w.heap.size ∧
      (Instr.entry (.pointer (some ⟨r, 0, none⟩))).run P w' = .ok (.tuple #[enc k, v]) w' := by
  have hrlt := h.lt
  have hrb := h.ne
  obtain ⟨es, clock, since, seen, c0, h1, h2, h3, h4, h5, h6, h7, h8, h9, h10, h11⟩ := h
  rcases run_next_at (P := P) w ty r b since c0 seen es clock h6 h1 h7 h8 with ⟨h0, hrun⟩ | ⟨e, he, w1, hw1, hrun⟩
  · refine .inl ⟨?_, hrun⟩
    have e0 : es.toList.filter (fun e => !seen.contains e.born) = [] := by
      have : (leftOf es seen).toList = [] := by
        have : leftOf es seen = #[] := Array.eq_empty_of_size_eq_zero h0
        rw [this]
      simpa [leftOf] using this
    rw [e0] at h10
    simpa using h10.symm
  · have he' : e ∈ es.toList.filter (fun e => !seen.contains e.born) := by simpa [leftOf] using he
    obtain ⟨i, hi, hie⟩ := List.mem_iff_getElem.1 he'
    have hlen : (es.toList.filter (fun e => !seen.contains e.born)).length = left.length := by simpa using congrArg List.length h10
    have hpair : (e.key, e.val) = (enc (left[i]'(by omega)).1, (left[i]'(by omega)).2) := by
      have := congrArg (fun q => q[i]?) h10
      simp only [List.getElem?_map] at this
      rw [List.getElem?_eq_getElem hi, List.getElem?_eq_getElem (show i < left.length by omega)] at this
      simp only [Option.map_some, Option.some.injEq, hie] at this
      exact this
    obtain ⟨k, hk⟩ : ∃ k, (left[i]'(by omega)).1 = k := ⟨_, rfl⟩
    obtain ⟨v, hv⟩ : ∃ v, (left[i]'(by omega)).2 = v := ⟨_, rfl⟩
    rw [hk, hv] at hpair
    injection hpair with hk1 hv1
    have hin : (k, v) ∈ left := by rw [← hk, ← hv]; exact List.getElem_mem _
    have hblt : b < w.heap.size := (Array.getElem?_eq_some_iff.1 h1).1
    have hw1h : w1.heap = w.heap := by rcases hw1 with rfl | rfl <;> rfl
    have hg1 : w.grownBy w1 (some r) := by rcases hw1 with rfl | rfl <;> exact ⟨rfl, rfl, rfl, Nat.le_refl _, fun _ _ _ => rfl⟩
    have hr' : (setBlock w1 r (.mapIter (some b) since (seen.push e.born) clock)).heap[r]? = some (.mapIter (some b) since (seen.push e.born) clock) := heap_setBlock _ (by rw [hw1h]; exact hrlt)
    have hb' : (setBlock w1 r (.mapIter (some b) since (seen.push e.born) clock)).heap[b]? = some (.map es clock) := by
      simp only [setBlock]
      rw [Array.getElem?_setIfInBounds_ne hrb, hw1h]
      exact h1
    have hes : e ∈ es.toList := (List.mem_filter.1 he').1
    have hnd : (es.toList.map (·.born)).Nodup := h4.imp (fun h => Nat.ne_of_lt h)
    refine .inr ⟨k, v, _, hin, by rw [← hk1, ← hv1]; exact hrun, ⟨es, clock, since, _, clock, hb', h2, h3, h4, h5, hr', h7, h9, h9, ?_, ?_⟩, World.grownBy.trans hg1 (grownBy_setBlock _ _ _), by simp [setBlock, hw1h], ?_⟩
    · have e1 : (es.toList.filter fun x => !(seen.push e.born).contains x.born) = (es.toList.filter fun x => !seen.contains x.born).filter fun x => !decide (x.born = e.born) := by
        rw [List.filter_filter]
        apply List.filter_congr
        intro x _
        rw [Bool.eq_iff_iff]
        simp [not_or, and_comm]
      rw [e1]
      have hnl : (left.map (·.1)).Nodup := h3.sublist (h11.map _)
      have hsame : ∀ x ∈ es.toList.filter (fun e => !seen.contains e.born), (x.born = e.born ↔ x.key = enc k) := by
        intro x hx
        constructor
        · intro hb
          have hxe : x = e := by
            have hx' := (List.mem_filter.1 hx).1
            obtain ⟨i1, hi1, rfl⟩ := List.mem_iff_getElem.1 hx'
            obtain ⟨i2, hi2, rfl⟩ := List.mem_iff_getElem.1 hes
            have := (List.pairwise_iff_getElem.1 h4)
            simp only [List.length_map, List.getElem_map] at this
            rcases Nat.lt_trichotomy i1 i2 with hlt | heq | hlt
            · have := this i1 i2 (by simpa using hi1) (by simpa using hi2) hlt; omega
            · subst heq; rfl
            · have := this i2 i1 (by simpa using hi2) (by simpa using hi1) hlt; omega
          rw [hxe, hk1]
        · intro hkx
          obtain ⟨j, hj, hjx⟩ := List.mem_iff_getElem.1 hx
          have hj2 : (x.key, x.val) = (enc (left[j]'(by omega)).1, (left[j]'(by omega)).2) := by
            have := congrArg (fun q => q[j]?) h10
            simp only [List.getElem?_map] at this
            rw [List.getElem?_eq_getElem hj, List.getElem?_eq_getElem (show j < left.length by omega)] at this
            simp only [Option.map_some, Option.some.injEq, hjx] at this
            exact this
          injection hj2 with hj3 hj4
          have hjk : (left[j]'(by omega)).1 = k := inj _ _ (by rw [← hj3, hkx])
          have hij : i = j := by
            have hnd' := List.pairwise_iff_getElem.1 hnl
            simp only [List.length_map, List.getElem_map] at hnd'
            rcases Nat.lt_trichotomy i j with hlt | heq | hlt
            · exact absurd (hk.trans hjk.symm) (hnd' i j (by omega) (by omega) hlt)
            · exact heq
            · exact absurd (hjk.trans hk.symm) (hnd' j i (by omega) (by omega) hlt)
          subst hij
          rw [← hjx, hie]
      exact filter_left inj _ _ _ k h10 hsame
    · exact (List.filter_sublist).trans h11
    · rw [← hk1, ← hv1]
      exact run_entry_at _ r b since seen es clock e hr' hb' hes hnd

/-! ### The laws for the walk -/
section
variable {ops : Array Oper} {rest : List Oper} {o : Oper} {a : Act} {Q : Exit → Act → World → Prop} {kt t et : TypeId} {w : World} {b : Nat} {l : List (κ × Value)}
theorem wp_lookup_ok_some (K : KeyT P kt κ enc) (ht : P.underlying t = some (.map kt et)) {z : Value} (hz : (zeroValue et).run P w = .ok z w) (hM : MapV enc w b l) (k : κ) (v : Value) (hal : al k l = some v)
    (hg : o.guard = none) (m x : Operand) (hop : o.op = Op.lookup t m x true) (hm : a.eval m = .map (some b)) (hx : a.eval x = enc k)
    (h : wpList P ops Q rest (a.put o.dst (.tuple #[v, .bool true])) w) : wpList P ops Q (o :: rest) a w := by
  refine wpList_plain hg fun K' hK' => ?_
  have hrun := run_lookup K ht hz hM k true
  rw [hal] at hrun
  unfold Oper.wp
  simp [execOp, hop, hm, hx, hrun, Result.andThen]
  exact hK' _ _ h
theorem wp_lookup_ok_none (K : KeyT P kt κ enc) (ht : P.underlying t = some (.map kt et)) {z : Value} (hz : (zeroValue et).run P w = .ok z w) (hM : MapV enc w b l) (k : κ) (hal : al k l = none)
    (hg : o.guard = none) (m x : Operand) (hop : o.op = Op.lookup t m x true) (hm : a.eval m = .map (some b)) (hx : a.eval x = enc k)
    (h : wpList P ops Q rest (a.put o.dst (.tuple #[z, .bool false])) w) : wpList P ops Q (o :: rest) a w := by
  refine wpList_plain hg fun K' hK' => ?_
  have hrun := run_lookup K ht hz hM k true
  rw [hal] at hrun
  unfold Oper.wp
  simp [execOp, hop, hm, hx, hrun, Result.andThen]
  exact hK' _ _ h
theorem wp_lookup_one (K : KeyT P kt κ enc) (ht : P.underlying t = some (.map kt et)) {z : Value} (hz : (zeroValue et).run P w = .ok z w) (hM : MapV enc w b l) (k : κ) (v : Value) (hal : (al k l).getD z = v)
    (hg : o.guard = none) (m x : Operand) (hop : o.op = Op.lookup t m x false) (hm : a.eval m = .map (some b)) (hx : a.eval x = enc k)
    (h : wpList P ops Q rest (a.put o.dst v) w) : wpList P ops Q (o :: rest) a w := by
  refine wpList_plain hg fun K' hK' => ?_
  have hrun := run_lookup K ht hz hM k false
  rw [hal] at hrun
  unfold Oper.wp
  simp [execOp, hop, hm, hx, hrun, Result.andThen]
  exact hK' _ _ h
theorem wp_mapUpdate (K : KeyT P kt κ enc) (ht : P.underlying t = some (.map kt et)) (hM : MapV enc w b l) (k : κ) (v : Value)
    (hg : o.guard = none) (m x y : Operand) (hop : o.op = Op.mapUpdate t m x y) (hm : a.eval m = .map (some b)) (hx : a.eval x = enc k) (hy : a.eval y = v)
    (h : ∀ w', MapV enc w' b (put k v l) → w.grownBy w' (some b) → w'.heap.size ≤ w.heap.size → wpList P ops Q rest (a.put o.dst undef) w') : wpList P ops Q (o :: rest) a w := by
  refine wpList_plain hg fun K' hK' => ?_
  obtain ⟨w', hrun, h1, h2, h3⟩ := run_mapUpdate K ht hM k v
  unfold Oper.wp
  simp [execOp, hop, hm, hx, hy, hrun, Result.andThen]
  exact hK' _ _ (h w' h1 h2 (Nat.le_of_eq h3))
omit [DecidableEq κ] in
theorem wp_len_map (ht : P.underlying t = some (.map kt et)) (hM : MapV enc w b l)
    (hg : o.guard = none) (m : Operand) (hop : o.op = Op.call { callee := .builtin .len, args := #[m], argTypes := #[t] }) (hm : a.eval m = .map (some b))
    (h : wpList P ops Q rest (a.put o.dst (.int .i64 l.length)) w) : wpList P ops Q (o :: rest) a w := by
  refine wpList_plain hg fun K' hK' => ?_
  have hrun := run_len_map (P := P) (ty := o.type) ht hM
  unfold Oper.wp
  simp [execOp, hop, resolve, invoke, builtin, hm, hrun, Result.andThen]
  exact hK' _ _ h
omit [DecidableEq κ] in
theorem wp_range_map (ht : P.underlying t = some (.map kt et)) (hM : MapV enc w b l)
    (hg : o.guard = none) (m : Operand) (hop : o.op = Op.range t m) (hm : a.eval m = .map (some b))
    (h : ∀ w', Walks enc w' w.heap.size b l l → w.grownBy w' none → w'.heap.size ≤ w.heap.size + 1 → w.heap.size + 1 ≤ w'.heap.size → wpList P ops Q rest (a.put o.dst (.pointer (some ⟨w.heap.size, 0, none⟩))) w') : wpList P ops Q (o :: rest) a w := by
  refine wpList_plain hg fun K' hK' => ?_
  obtain ⟨w', hrun, h1, h2, h3⟩ := run_range (P := P) ht hM
  unfold Oper.wp
  simp [execOp, hop, hm, hrun, Result.andThen]
  exact hK' _ _ (h w' h1 h2 (Nat.le_of_eq h3) (Nat.le_of_eq h3.symm))
theorem wp_next_map (inj : ∀ a b, enc a = enc b → a = b) {r : Nat} {left : List (κ × Value)} (hW : Walks enc w r b l left)
    (hg : o.guard = none) (it : Operand) (hop : o.op = Op.next it false) (hit : a.eval it = .pointer (some ⟨r, 0, none⟩))
    (hDone : left = [] → wpList P ops Q rest (a.put o.dst (.tuple #[.bool false])) w)
    (hMore : ∀ k v w', (k, v) ∈ left → Walks enc w' r b l (del k left) → w.grownBy w' (some r) → w'.heap.size ≤ w.heap.size → (Instr.entry (.pointer (some ⟨r, 0, none⟩))).run P w' = .ok (.tuple #[enc k, v]) w' →
      wpList P ops Q rest (a.put o.dst (.tuple #[.bool true, enc k, v])) w') : wpList P ops Q (o :: rest) a w := by
  refine wpList_plain hg fun K' hK' => ?_
  unfold Oper.wp
  rcases run_next (P := P) inj hW o.type with ⟨h0, hrun⟩ | ⟨k, v, w', h1, hrun, h2, h3, h4, h5⟩
  · simp [execOp, hop, hit, hrun, Result.andThen]
    exact hK' _ _ (hDone h0)
  · simp [execOp, hop, hit, hrun, Result.andThen]
    exact hK' _ _ (hMore k v w' h1 h2 h3 (Nat.le_of_eq h4) h5)
theorem wp_delete_walks {r : Nat} {left : List (κ × Value)} (K : KeyT P kt κ enc) (ht : P.underlying t = some (.map kt et)) (hW : Walks enc w r b l left) (k : κ) (hk : k ∉ left.map (·.1))
    (hg : o.guard = none) (m x : Operand) (u : TypeId) (hop : o.op = Op.call { callee := .builtin .delete, args := #[m, x], argTypes := #[t, u] }) (hm : a.eval m = .map (some b)) (hx : a.eval x = enc k)
    (h : ∀ w', Walks enc w' r b (del k l) left → w.grownBy w' (some b) → w'.heap.size ≤ w.heap.size → wpList P ops Q rest (a.put o.dst (.tuple #[])) w') : wpList P ops Q (o :: rest) a w := by
  refine wpList_plain hg fun K' hK' => ?_
  obtain ⟨w', hrun, h1, h2, h3⟩ := run_delete_walks (ty := o.type) K ht hW k hk u
  unfold Oper.wp
  simp [execOp, hop, resolve, invoke, builtin, hm, hx, hrun, Result.andThen]
  exact hK' _ _ (h w' h1 h2 (Nat.le_of_eq h3))
end

/-! ### Values of a kind of their own -/
section
variable {ν : Type} (encV : ν → Value)
def vals (l : List (κ × ν)) : List (κ × Value) := l.map fun p => (p.1, encV p.2)
omit [DecidableEq κ] in
theorem vals_keys (l : List (κ × ν)) : (vals encV l).map (·.1) = l.map (·.1) := by simp [vals, Function.comp_def]
theorem vals_al (k : κ) : ∀ (l : List (κ × ν)), al k (vals encV l) = (al k l).map encV
  | [] => rfl
  | p :: l => by
    have ih := vals_al k l
    simp only [vals, List.map_cons, al_cons] at ih ⊢
    split
    · rfl
    · exact ih
theorem vals_put (k : κ) (v : ν) : ∀ (l : List (κ × ν)), put k (encV v) (vals encV l) = vals encV (put k v l)
  | [] => rfl
  | p :: l => by
    have ih := vals_put k v l
    simp only [vals, List.map_cons, put] at ih ⊢
    split
    · rfl
    · rw [ih]; rfl
theorem vals_del (k : κ) (l : List (κ × ν)) : del k (vals encV l) = vals encV (del k l) := by
  simp only [vals, del, List.filter_map]
  rfl
end

theorem wp_next_vals {ν : Type} {encV : ν → Value} {ops : Array Oper} {rest : List Oper} {o : Oper} {a : Act} {Q : Exit → Act → World → Prop} {w : World} {b : Nat} {l : List (κ × Value)}
    (inj : ∀ a b, enc a = enc b → a = b) {r : Nat} {left : List (κ × ν)} (hW : Walks enc w r b l (vals encV left))
    (hg : o.guard = none) (it : Operand) (hop : o.op = Op.next it false) (hit : a.eval it = .pointer (some ⟨r, 0, none⟩))
    (hDone : left = [] → wpList P ops Q rest (a.put o.dst (.tuple #[.bool false])) w)
    (hMore : ∀ p w', p ∈ left → Walks enc w' r b l (vals encV (del p.1 left)) → w.grownBy w' (some r) → w'.heap.size ≤ w.heap.size → (Instr.entry (.pointer (some ⟨r, 0, none⟩))).run P w' = .ok (.tuple #[enc p.1, encV p.2]) w' →
      wpList P ops Q rest (a.put o.dst (.tuple #[.bool true, enc p.1, encV p.2])) w') : wpList P ops Q (o :: rest) a w := by
  refine wp_next_map inj hW hg it hop hit (fun h0 => hDone ?_) (fun k v w' hin h1 h2 h3 h4 => ?_)
  · simpa [vals] using h0
  · obtain ⟨p, hp, hpe⟩ := List.mem_map.1 hin
    injection hpe with hk hv
    subst hk; subst hv
    rw [vals_del] at h1
    exact hMore p w' hp h1 h2 h3 h4

/-! ### The same inside a fence -/
omit [DecidableEq κ] in
theorem Walks.of_walks {w w' : World} {r b : Nat} {l left : List (κ × Value)} (h : Walks enc w r b l left) (hk : KeepsWalks w w') : Walks enc w' r b l left := by
  obtain ⟨es, clock, since, seen, c0, h1, h2, h3, h4, h5, h6, h7⟩ := h
  exact ⟨es, clock, since, seen, c0, hk.same b _ h1 rfl, h2, h3, h4, h5, hk.same r _ h6 rfl, h7⟩
omit [DecidableEq κ] in
theorem Walks.iter_walk {w : World} {r b : Nat} {l left : List (κ × Value)} (h : Walks enc w r b l left) : ∃ o : Obj, w.heap[r]? = some o ∧ o.isWalk = true := by
  obtain ⟨es, clock, since, seen, c0, h1, h2, h3, h4, h5, h6, h7⟩ := h
  exact ⟨_, h6, rfl⟩
section
variable {F : Fence} {nF : Nat} {ops : Array Oper} {rest : List Oper} {o : Oper} {a : Act} {Q : Exit → Act → World → Prop} {kt t et : TypeId} {w : World} {b : Nat} {l : List (κ × Value)}
omit [DecidableEq κ] in
theorem wpIn_range_map (ht : P.underlying t = some (.map kt et)) (hM : MapV enc w b l)
    (hg : o.guard = none) (m : Operand) (hop : o.op = Op.range t m) (hm : a.eval m = .map (some b))
    (h : ∀ w', Walks enc w' w.heap.size b l l → w.grownBy w' none → w'.heap.size ≤ w.heap.size + 1 → w.heap.size + 1 ≤ w'.heap.size → wpListIn F nF P ops Q rest (a.put o.dst (.pointer (some ⟨w.heap.size, 0, none⟩))) w') : wpListIn F nF P ops Q (o :: rest) a w := by
  refine wpListIn_plain hg fun K' hK' => ?_
  obtain ⟨w', hrun, h1, h2, h3⟩ := run_range (P := P) ht hM
  unfold Oper.wpIn
  refine ⟨by simp [Oper.about, hop], ?_⟩
  rw [Oper.semAt_plain F _ _ (by rw [hop]; intro c hc'; cases hc')]
  simp [execOp, hop, hm, hrun, Result.andThen]
  exact hK' _ _ (h w' h1 h2 (Nat.le_of_eq h3) (Nat.le_of_eq h3.symm))
theorem wpIn_next_vals {ν : Type} {encV : ν → Value} (inj : ∀ a b, enc a = enc b → a = b) {r : Nat} {left : List (κ × ν)} (hW : Walks enc w r b l (vals encV left))
    (hg : o.guard = none) (it : Operand) (hop : o.op = Op.next it false) (hit : a.eval it = .pointer (some ⟨r, 0, none⟩))
    (hDone : left = [] → wpListIn F nF P ops Q rest (a.put o.dst (.tuple #[.bool false])) w)
    (hMore : ∀ p w', p ∈ left → Walks enc w' r b l (vals encV (del p.1 left)) → w.grownBy w' (some r) → w'.heap.size ≤ w.heap.size → (Instr.entry (.pointer (some ⟨r, 0, none⟩))).run P w' = .ok (.tuple #[enc p.1, encV p.2]) w' →
      wpListIn F nF P ops Q rest (a.put o.dst (.tuple #[.bool true, enc p.1, encV p.2])) w') : wpListIn F nF P ops Q (o :: rest) a w := by
  refine wpListIn_plain hg fun K' hK' => ?_
  unfold Oper.wpIn
  refine ⟨by simp [Oper.about, hop], ?_⟩
  rw [Oper.semAt_plain F _ _ (by rw [hop]; intro c hc'; cases hc')]
  rcases run_next (P := P) inj hW o.type with ⟨h0, hrun⟩ | ⟨k, v, w', h1, hrun, h2, h3, h4, h5⟩
  · simp [execOp, hop, hit, hrun, Result.andThen]
    exact hK' _ _ (hDone (by simpa [vals] using h0))
  · simp [execOp, hop, hit, hrun, Result.andThen]
    obtain ⟨p, hp, hpe⟩ := List.mem_map.1 h1
    injection hpe with hk hv
    subst hk; subst hv
    rw [vals_del] at h2
    exact hK' _ _ (hMore p w' hp h2 h3 (Nat.le_of_eq h4) h5)
end
/-- Keys that have come and keys that are still to come make up all of them. -/
theorem perm_step {ν : Type} {l left : List (κ × ν)} (hn : (l.map (·.1)).Nodup) {ss : List κ} (h : (ss ++ left.map (·.1)).Perm (l.map (·.1))) {p : κ × ν} (hp : p ∈ left) : ((ss ++ [p.1]) ++ (del p.1 left).map (·.1)).Perm (l.map (·.1)) := by
  have hnl : (left.map (·.1)).Nodup := (List.nodup_append.1 (h.symm.nodup hn)).2.1
  have h1 : (left.map (·.1)).Perm (p.1 :: (del p.1 left).map (·.1)) := by
    clear h hn
    induction left with
    | nil => cases hp
    | cons q left ih =>
      simp only [List.map_cons, List.nodup_cons] at hnl
      rcases List.mem_cons.1 hp with rfl | hp'
      · unfold del
        rw [List.filter_cons_of_neg (by simp), List.filter_eq_self.2 (fun x hx => by simp; exact fun e => hnl.1 (e ▸ List.mem_map.2 ⟨x, hx, rfl⟩))]
        exact List.Perm.refl _
      · have hne : q.1 ≠ p.1 := fun e => hnl.1 (by rw [e]; exact List.mem_map.2 ⟨p, hp', rfl⟩)
        unfold del at ih ⊢
        rw [List.filter_cons_of_pos (by simpa using hne)]
        simp only [List.map_cons]
        exact ((ih hp' hnl.2).cons q.1).trans (List.Perm.swap _ _ _)
  rw [List.append_assoc]
  exact (List.Perm.append_left ss h1.symm).trans h

end Go.Proofs.Ytdkhaohjfclceaa.Mp
