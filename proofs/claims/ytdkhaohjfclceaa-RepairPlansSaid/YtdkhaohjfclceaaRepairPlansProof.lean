/- RepairPlans: for every input the law returns true, and the input reads behind the call as it did ahead; no condition beyond the given row. -/
import Derived.Test.YtdkhaohjfclceaaRows
import Derived.Test.YtdkhaohjfclceaaRp13
import Derived.WalkKit
import Derived.ProofKit
import Derived.OpenShut
import Derived.ShutString
import Derived.ChangeOld
import Derived.Below
import Derived.SizedLaws
import Derived.Deep.Slices
import Derived.Deep.Fields
import Derived.ChangeSame
namespace Go.Proofs.Ytdkhaohjfclceaa.repairPlans
open Go.ChangeShapes Go.WideShapes Go.ChangeAt Go.RowKit Go.Deep
open Go.Proofs.Ytdkhaohjfclceaa.PRp Go.Proofs.YtdkhaohjfclceaaW.PrintWords
set_option linter.unusedVariables false
theorem own : ownKnob Try.prog.godebug = none := by kernel_rfl
theorem laidOut : laidOutB Try.prog = true := by kernel_rfl

/-- Whatever reads as a t holds an element of d. -/
def Opens {α : Type} (t : TypeId) (d : Kd α) : Prop := ∀ (H : Type) (enc : TypeId × Value → H) (w : World) (base : Nat) (spare : Nat → Bool) (held : Bool) (fuel : Nat) (cs : List Value) (x : DataW H × List MemPlace),
  DataW.trod enc Try.prog w base spare held fuel t cs = some x → ∃ a : α, d.K w a cs
set_option maxRecDepth 100000 in
theorem opens81 : Opens 81 k81 := by
  intro H enc w base spare held fuel cs x h
  obtain ⟨ys, n, hn, hy, hlen, hyl, hf⟩ := DataW.trod_struct Try.underlying81 h
  have hc : Try.prog.cellsOf 81 = 4 := by kernel_rfl
  rw [hc] at hlen
  match cs, hlen with
  | [v0, v1, v2, v3], _ =>
    have hp : ∀ i, i < 4 → ∃ y, ys[i]? = some y := fun i hi => ⟨ys[i]'(by rw [hyl]; exact hi), List.getElem?_eq_getElem _⟩
    obtain ⟨y0, e0⟩ := hp 0 (by omega)
    obtain ⟨y1, e1⟩ := hp 1 (by omega)
    obtain ⟨y2, e2⟩ := hp 2 (by omega)
    obtain ⟨y3, e3⟩ := hp 3 (by omega)
    have h0 := hf 0 _ rfl
    have h1 := hf 1 _ rfl
    have h2 := hf 2 _ rfl
    have h3 := hf 3 _ rfl
    rw [e0] at h0
    rw [e1] at h1
    rw [e2] at h2
    rw [e3] at h3
    have c9 : Try.prog.cellsOf 9 = 1 := by kernel_rfl
    have c3 : Try.prog.cellsOf 3 = 1 := by kernel_rfl
    have c79 : Try.prog.cellsOf 79 = 1 := by kernel_rfl
    have g0 : DataW.trod enc Try.prog w base spare held n 9 (List.take (Try.prog.cellsOf 9) [v0, v1, v2, v3]) = some y0 := h0
    have g1 : DataW.trod enc Try.prog w base spare held n 3 (List.take (Try.prog.cellsOf 3) [v1, v2, v3]) = some y1 := h1
    have g2 : DataW.trod enc Try.prog w base spare held n 3 (List.take (Try.prog.cellsOf 3) [v2, v3]) = some y2 := h2
    have g3 : DataW.trod enc Try.prog w base spare held n 79 (List.take (Try.prog.cellsOf 79) [v3]) = some y3 := h3
    rw [c9] at g0
    rw [c3] at g1 g2
    rw [c79] at g3
    obtain ⟨s, z0, _⟩ := DataW.trod_string Try.underlying9 g0
    obtain ⟨i1, z1, _⟩ := DataW.trod_int Try.underlying3 g1
    obtain ⟨i2, z2, _⟩ := DataW.trod_int Try.underlying3 g2
    obtain ⟨i3, z3, _⟩ := DataW.trod_int Try.underlying79 g3
    simp only [List.take_succ_cons, List.take_zero, List.cons.injEq, and_true] at z0 z1 z2 z3
    subst z0 z1 z2 z3
    exact ⟨⟨s, i1, i2, i3⟩, k81_mk w ⟨s, i1, i2, i3⟩⟩

theorem choose_list {α : Type} : ∀ (n : Nat) (Q : Nat → α → Prop), (∀ i, i < n → ∃ y, Q i y) → ∃ xs : List α, xs.length = n ∧ ∀ i p, xs[i]? = some p → Q i p
  | 0, Q, _ => ⟨[], rfl, fun i p h => by simp at h⟩
  | n + 1, Q, h => by
    obtain ⟨xs, h1, h2⟩ := choose_list n Q (fun i hi => h i (by omega))
    obtain ⟨y, hy⟩ := h n (by omega)
    refine ⟨xs ++ [y], by simp [h1], fun i p hp => ?_⟩
    by_cases e : i < n
    · rw [List.getElem?_append_left (by omega)] at hp
      exact h2 i p hp
    · rw [List.getElem?_append_right (by omega)] at hp
      have e2 : i - xs.length = 0 := by
        have := (List.getElem?_eq_some_iff.1 hp).1
        simp at this
        omega
      rw [e2] at hp
      simp at hp
      subst hp
      rw [show i = n by omega]
      exact hy
theorem opens_slice {α : Type} {t e : TypeId} {d : Kd α} (ht : Try.prog.underlying t = some (.slice e)) (hc : Try.prog.cellsOf e = d.sz) (ho : Opens e d) : Opens t (Kd.slice e d) := by
  intro H enc w base spare held fuel cs x h
  rcases open_slice ht h with ⟨rfl, _⟩ | ⟨a, len, cap, m, n, D, Pl, rfl, hb, hl, hm, hmm, hx, hi⟩
  · exact ⟨[], none, 0, rfl, Nat.le_refl _, rfl, by simp, fun h => by cases h⟩
  · have hlm : len ≤ m := by rw [hmm]; split <;> omega
    have hX : ∀ i, i < len → ∃ y : α, ∃ c : List Value, c.length = d.sz ∧ d.K w y c ∧ ∀ j u, c[j]? = some u → w.cell? (a.add (i * d.sz + j)) = some u := by
      intro i hil
      obtain ⟨cs', h1, h2⟩ := hi i (by omega)
      obtain ⟨y, hy⟩ := ho H enc w base spare held n cs' _ h2
      rw [hc] at h1
      obtain ⟨_, hcl, hat⟩ := World.cells?_some h1
      refine ⟨y, cs', hcl, hy, fun j u hu => ?_⟩
      have hj : j < d.sz := by rw [← hcl]; exact (List.getElem?_eq_some_iff.1 hu).1
      rw [← Go.Deep.add_add, hat j hj, hu]
    obtain ⟨xs, hl1, hl2⟩ := choose_list len _ hX
    subst hl1
    have hcm : cap ≤ 9223372036854775807 := hm
    exact ⟨xs, some a, cap, rfl, hl, rfl, by omega, fun _ => ⟨a, rfl, hl2⟩⟩

theorem opens22 : Opens 22 (Kd.slice 81 k81) := opens_slice Try.underlying22 (by kernel_rfl) opens81
theorem opens23 : Opens 23 (Kd.slice 22 (Kd.slice 81 k81)) := opens_slice Try.underlying23 (by kernel_rfl) opens22

set_option maxRecDepth 100000 in
theorem lifted (os : Os) (started : os.Started) (H : Type) (enc : TypeId × Value → H) :
    ReturnsInHanded {} Try.checked os 3 .any (Rows.repairPlansSpec.pre6 enc Try.prog Try.f3 Rows.repairPlansRow.domain false) (Rows.repairPlansSpec.post enc Try.prog Try.f3 false true false false) := by
  refine returnsInHanded_of_change_sized (C := Try.checked) own started (by kernel_rfl) Try.func3
    (ChangeSpec.witness6 (enc := enc) (C := Try.checked) false ⟨#[], #[.slice none 0 0, .slice none 0 0], []⟩ 8 (by kernel_rfl) (by kernel_rfl) (by kernel_rfl) (by kernel_rfl)) ?_
  intro W base args ds gs before hval0 hW hcnd hsz0 _
  have hval : ∀ (j : Nat) t v, Try.f3.params[j]? = some t → args[j]? = some v → Value.okWide Try.prog W .any base t v := hval0
  have hW' := hW
  obtain ⟨p, q, hA0, hV, rfl, hfz, hnd⟩ := hW
  have hA : DataW.TrodAll enc Try.prog W 0 (fun _ => true) true Try.f3.params.toList args.toList ds p := hA0
  rw [Try.params3] at hA hval
  obtain ⟨v0, vs0, d0, ds0, p0, q0, hargs, rfl, rfl, h0, r0⟩ := trodAll_cons hA
  obtain ⟨v1, vs1, d1, ds1, p1, q1, rfl, rfl, rfl, h1, r1⟩ := trodAll_cons r0
  obtain ⟨rfl, rfl, rfl⟩ := trodAll_nil r1
  obtain rfl : args = #[v0, v1] := by cases args; simp_all
  obtain ⟨rfl, rfl⟩ := trodVars_none hV
  obtain ⟨a0, len0, cap0, rfl⟩ := okWide_slice Try.underlying22 (hval 0 22 v0 rfl rfl)
  obtain ⟨a1, len1, cap1, rfl⟩ := okWide_slice Try.underlying23 (hval 1 23 v1 rfl rfl)
  have k0 := h0
  have k1 := h1
  have lt0 : ∀ x ∈ p0, x.block < W.heap.size := by obtain ⟨m, hm⟩ := k0; exact DataW.trod_lt m _ _ _ hm
  have lt1 : ∀ x ∈ p1, x.block < W.heap.size := by obtain ⟨m, hm⟩ := k1; exact DataW.trod_lt m _ _ _ hm
  obtain ⟨fu0, hf0⟩ := h0
  obtain ⟨fu1, hf1⟩ := h1
  obtain ⟨l0, A0, c0, e0, hc0, hr0⟩ := opens22 _ _ _ _ _ _ _ _ _ hf0
  obtain ⟨ls, A1, c1, e1, hc1, hr1⟩ := opens23 _ _ _ _ _ _ _ _ _ hf1
  simp [Value.cells] at e0 e1
  obtain ⟨rfl, rfl, rfl⟩ := e0
  obtain ⟨rfl, rfl, rfl⟩ := e1
  clear hA0 hval0 hsz0
  refine (Rp.law a0 a1 cap0 cap1 l0 ls W hr0 hc0 hr1 hc1).mono fun e W' ⟨he, bel⟩ => ?_
  subst he
  exact ⟨_, rfl, _, _, _, [], _, [], hW', trodAll_mk1 (shut_bool Try.underlying4 _), (trodAll_cons_mk (Below.trod laidOut (by kernel_rfl) (of_decide_eq_true (by kernel_rfl)) k0 bel lt0) (trodAll_cons_mk (Below.trod laidOut (by kernel_rfl) (of_decide_eq_true (by kernel_rfl)) k1 bel lt1) trodAll_mk0)), rfl, bel.frame _, fun h => by cases h⟩

theorem over : Rows.repairPlansRow.holds Try.pinned (OpenSpec.ofChange Rows.repairPlansSpec) :=
  OpenClaim.holds_of_wide 3 Try.f3 rfl rfl rfl rfl rfl rfl rfl ⟨rfl, rfl, rfl, rfl, rfl⟩ rfl rfl rfl rfl rfl (by kernel_rfl) Try.func3 (by kernel_rfl)
    (of_decide_eq_true (by kernel_rfl)) (by unfold Func.isWrapper; first | (rw [if_pos (by decide +kernel)]; kernel_rfl) | (rw [if_neg (by decide +kernel)]; exact ⟨rfl, rfl⟩))
    (fun os started H enc _ => lifted os started H enc)
theorem proved : Rows.RepairPlansSaid := over
#print axioms proved
end Go.Proofs.Ytdkhaohjfclceaa.repairPlans
namespace Go.Proofs.Ytdkhaohjfclceaa
/-- The row, under a short name, for the claim. -/
theorem repairPlans_holds : Rows.RepairPlansSaid := repairPlans.proved
end Go.Proofs.Ytdkhaohjfclceaa
