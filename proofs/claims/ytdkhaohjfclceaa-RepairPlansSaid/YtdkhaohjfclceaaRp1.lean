/- repair.placed: the first of each place, as a map. -/
import Derived.Test.YtdkhaohjfclceaaPRpx0
import Derived.Test.YtdkhaohjfclceaaMp
import Derived.WalkLawsBesides
import Derived.Outline
import Derived.Lib.Hide
set_option linter.unusedVariables false
set_option linter.unusedSimpArgs false
namespace Go.Proofs.Ytdkhaohjfclceaa.Rp
open Go.RowKit Go.Proofs.Ytdkhaohjfclceaa.Mp Go.Proofs.Ytdkhaohjfclceaa.PRp Go.Proofs.YtdkhaohjfclceaaW.PrintWords

abbrev Pl := ByteArray × Int
abbrev Kp := Int × Int
def encP (p : Pl) : Value := .agg #[.string p.1, .int .i64 p.2]
def encK (c : Kp) : Value := .agg #[.int .i64 c.1, .int .u32 c.2]

theorem eqA30 (d : Nat) (w : World) (x0 y0 : ByteArray) (x1 y1 : Int) :
    (Op.equalIn (d + 2) 30 (.agg #[.string x0, .int .i64 x1]) (.agg #[.string y0, .int .i64 y1])).run Try.prog w = .ok (x0.toList == y0.toList && (x1 == y1)) w := by
  refine eqA_of Try.underlying30 (by kernel_rfl) ?_
  refine eqf_cons (by rfl) (by go_simp; rfl) (by go_simp; rfl) (by go_simp) ?_
  exact eqf_last (by rfl) (by go_simp; rfl) (by go_simp; rfl) (by go_simp)
theorem eqA93 (d : Nat) (w : World) (x0 y0 : Int) (x1 y1 : Int) :
    (Op.equalIn (d + 2) 93 (.agg #[.int .i64 x0, .int .u32 x1]) (.agg #[.int .i64 y0, .int .u32 y1])).run Try.prog w = .ok (x0 == y0 && (x1 == y1)) w := by
  refine eqA_of Try.underlying93 (by kernel_rfl) ?_
  refine eqf_cons (by rfl) (by go_simp; rfl) (by go_simp; rfl) (by go_simp) ?_
  exact eqf_last (by rfl) (by go_simp; rfl) (by go_simp; rfl) (by go_simp)

theorem keyP : KeyT Try.prog 30 Pl encP :=
  KeyT.of_struct (fs := Try.prog.fieldsOf 30) (by kernel_rfl)
    (fun a b h => by
      simp only [encP, Value.agg.injEq] at h
      injection h with h
      simp only [List.cons.injEq, Value.string.injEq, Value.int.injEq] at h
      exact Prod.ext h.1 h.2.1.2)
    (fun a b w => by
      have h := eqA30 9998 w a.1 b.1 a.2 b.2
      rw [toList_eq_iff] at h
      rw [show decide (a = b) = (decide (a.1 = b.1) && (a.2 == b.2)) from ?_]
      · exact h
      · rw [Bool.eq_iff_iff]
        simp [Prod.ext_iff])
    (fun e a w => by kernel_rfl)
    (fun a => by simp [Instr.sameBits, encP, beq_self_bytes])


/-- What a list of metas tells of its places: of each the first. -/
def seen1 (m : List (Pl × Kp)) (x : S81) : List (Pl × Kp) :=
  match al (x.f0, x.f1) m with
  | none => put (x.f0, x.f1) (x.f2, x.f3) m
  | some _ => m
def placedL (l : List S81) : List (Pl × Kp) := l.foldl seen1 []
theorem placedL_snoc (l : List S81) (x : S81) : placedL (l ++ [x]) = seen1 (placedL l) x := by simp [placedL]
theorem take_succ_rd (l : List S81) (k : Nat) (h : k < l.length) : l.take (k + 1) = l.take k ++ [rd_T81 l (k : Int)] := by
  rw [List.take_succ_eq_append_getElem h]
  simp [rd_T81, h]
theorem zero93 (w : World) : (zeroValue 93).run Try.prog w = .ok (.agg #[.int .i64 0, .int .u32 0]) w := by kernel_rfl

set_option maxHeartbeats 1000000 in
theorem placed (A : Option Addr) (c : Nat) (l : List S81) (w : World) (hr : Kd.C k81 w A l.length l) (hc : l.length ≤ c) :
    Calls Try.prog 36 #[.slice A l.length c] w fun e w' => e = .returned (.map (some w.heap.size)) ∧ MapV encP w' w.heap.size (vals encK (placedL l)) ∧ Below w.heap.size w w' := by
  have hmm := @run_makeMap Try.prog
  have hlen : l.length ≤ 9223372036854775807 := hr.2.1
  go_enter Try.func36, Try.ntmps36
  go_wp2
  go_loopw [12] (fun v wr => ∃ j : Nat, j ≤ l.length ∧ v = .int .i64 j ∧ MapV encP wr w.heap.size (vals encK (placedL (l.take j))) ∧ Below w.heap.size w wr) (fun v _ => l.length - (intOf v).toNat)
  case atStart => exact ⟨0, Nat.zero_le _, rfl, MapV.made encP w, (Below.refl _ _).alloc (Nat.le_refl _) _⟩
  case round =>
    obtain ⟨j, hj, rfl, hM, hB⟩ := hrel
    by_cases hlt : j < l.length
    · obtain ⟨ad, rfl, q0, q1, q2, q3⟩ := at_T81 (Kd.C_below hr hB) (j : Int) (by omega) (by omega)
      simp only [Int.toNat_natCast] at q0 q1 q2 q3
      obtain ⟨x, hx⟩ : ∃ x, rd_T81 l (j : Int) = x := ⟨_, rfl⟩
      rw [hx] at q0 q1 q2 q3
      have HX := Lib.hid hx; clear hx
      have hBs := hB.size
      cases hal : al (x.f0, x.f1) (placedL (l.take j)) with
      | none =>
        have hal' : al (x.f0, x.f1) (vals encK (placedL (l.take j))) = none := by rw [vals_al, hal]; rfl
        have H0 := Lib.hid hal; clear hal
        have H1 := Lib.hid hal'; clear hal'
        go_wp2_with (first
          | (at_lookup; refine wp_lookup_ok_none keyP Try.underlying91 (zero93 _) ((hM.alloc _).alloc _) (x.f0, x.f1) H1.out rfl _ _ rfl rfl rfl ?_)
          | (at_mapUpdate; refine wp_mapUpdate keyP Try.underlying91 (((hM.alloc _).alloc _).alloc _) (x.f0, x.f1) (encK (x.f2, x.f3)) rfl _ _ _ rfl rfl rfl rfl ?_; intro w2 hM2 hg2 hs2))
        go_roundw
        case rel =>
          refine ⟨j + 1, by omega, by go_num, ?_, ?_⟩
          · rw [take_succ_rd l j hlt, placedL_snoc, HX.out]
            simp only [seen1, H0.out]
            rw [← vals_put]
            exact hM2
          · exact ((((hB.alloc hBs _).alloc (by simp; omega) _).alloc (by simp; omega) _)).grown hg2 (by simp; omega) (fun k hk => by cases hk; exact Nat.le_refl _)
        case measure => simp [intOf]; omega
      | some v =>
        obtain ⟨vc, vs⟩ := v
        have hal' : al (x.f0, x.f1) (vals encK (placedL (l.take j))) = some (.agg #[.int .i64 vc, .int .u32 vs]) := by rw [vals_al, hal]; rfl
        have H0 := Lib.hid hal; clear hal
        have H1 := Lib.hid hal'; clear hal'
        go_wp2_with (at_lookup; refine wp_lookup_ok_some keyP Try.underlying91 (zero93 _) ((hM.alloc _).alloc _) (x.f0, x.f1) _ H1.out rfl _ _ rfl rfl rfl ?_)
        go_roundw
        case rel =>
          refine ⟨j + 1, by omega, by go_num, ?_, ?_⟩
          · rw [take_succ_rd l j hlt, placedL_snoc, HX.out]
            simp only [seen1, H0.out]
            exact ((hM.alloc _).alloc _).alloc _
          · exact (((hB.alloc hBs _).alloc (by simp; omega) _).alloc (by simp; omega) _)
        case measure => simp [intOf]; omega
    · have hjl : j = l.length := by omega
      subst hjl
      go_wp2
      go_ret
      exact ⟨rfl, by rwa [List.take_length] at hM, hB⟩

#print axioms placed
end Go.Proofs.Ytdkhaohjfclceaa.Rp
