/- The law thermographlaw19.RepairPlans, walked. -/
import Derived.Test.YtdkhaohjfclceaaRp12
set_option linter.unusedVariables false
set_option linter.unusedSimpArgs false
namespace Go.Proofs.Ytdkhaohjfclceaa.Rp
open Go.RowKit Go.Proofs.Ytdkhaohjfclceaa.Mp Go.Proofs.Ytdkhaohjfclceaa.PRp Go.Proofs.YtdkhaohjfclceaaW.PrintWords

theorem Ev.get {α : Type} {f : Nat → Option α} {r : α} (h : Ev f r) : ∃ k, f k = some r := by
  obtain ⟨K, hK⟩ := h
  exact ⟨K, hK K (Nat.le_refl _)⟩

theorem heavyG (ls : List (List S81)) : ∃ r, Ev (fun k => thermographlaw19_heavy.f k ls) r ∧ (r = false → ls.length ≤ 512 ∧ wt ls ≤ 512) := by
  by_cases h : ls.length < 4611686018427387904
  · exact heavyF ls h
  · refine ⟨true, Ev.of fun k => ?_, fun h => by cases h⟩
    show thermographlaw19_heavy.l0 (k + 1) ls (ls.length : Int) 0 = _
    rw [thermographlaw19_heavy.l0, if_pos (by omega), if_neg (by omega), decide_eq_true (by omega)]

/-- A slice of one list, laid by the law itself. -/
theorem one_C {w : World} {A : Option Addr} {c : Nat} {l : List S81} (hr : Kd.C k81 w A l.length l) (hc : l.length ≤ c) :
    Kd.C (Kd.slice 81 k81) (w.alloc (.cells #[.slice A l.length c] 22)) (some ⟨w.heap.size, 0, none⟩) 1 [l] := by
  refine ⟨rfl, by omega, fun _ => ⟨⟨w.heap.size, 0, none⟩, rfl, fun j p hp => ?_⟩⟩
  rcases j with _ | j
  · simp at hp
    subst hp
    refine ⟨[.slice A l.length c], rfl, ⟨A, c, rfl, hc, Kd.C_alloc hr _⟩, fun i u hu => ?_⟩
    have := cell_one_new w (.slice A l.length c) 22 i u hu
    simpa using this
  · simp at hp
theorem eqA33 (d : Nat) (w : World) (x0 y0 : ByteArray) (x1 y1 : Int) :
    (Op.equalIn (d + 2) 33 (.agg #[.string x0, .int .i64 x1]) (.agg #[.string y0, .int .i64 y1])).run Try.prog w = .ok (x0.toList == y0.toList && (x1 == y1)) w := by
  refine eqA_of Try.underlying33 (by kernel_rfl) ?_
  refine eqf_cons (by rfl) (by go_simp; rfl) (by go_simp; rfl) (by go_simp) ?_
  exact eqf_last (by rfl) (by go_simp; rfl) (by go_simp; rfl) (by go_simp)
def zA : Ak := (0, (⟨#[]⟩, 0))
theorem cellsA_cons (p : Ak) (l : List Ak) : cellsA (p :: l) = .int .i64 p.1 :: .string p.2.1 :: .int .i64 p.2.2 :: cellsA l := by simp [cellsA, encA]
theorem cellsA_at (l : List Ak) (t : Nat) (h : t < l.length) : (cellsA l)[t * 3]? = some (.int .i64 (l.getD t zA).1) ∧ (cellsA l)[t * 3 + 1]? = some (.string (l.getD t zA).2.1) ∧ (cellsA l)[t * 3 + 2]? = some (.int .i64 (l.getD t zA).2.2) := by
  induction l generalizing t with
  | nil => simp at h
  | cons p l ih =>
    cases t with
    | zero => simp [cellsA_cons]
    | succ t =>
      have := ih t (by simpa using h)
      rw [cellsA_cons, show (t + 1) * 3 = t * 3 + 1 + 1 + 1 by omega]
      simpa using this
theorem row_atA {W : World} {base : Nat} {g : Option Addr} {c : Nat} {l : List Ak} (h : W.ownsRow base 32 3 (.slice g l.length c) l.length (cellsA l)) (t : Nat) (ht : t < l.length) :
    ∃ b, g = some ⟨b, 0, none⟩ ∧ W.cell? ⟨b, t * 3, none⟩ = some (.int .i64 (l.getD t zA).1) ∧ W.cell? ⟨b, t * 3 + 1, none⟩ = some (.string (l.getD t zA).2.1) ∧ W.cell? ⟨b, t * 3 + 2, none⟩ = some (.int .i64 (l.getD t zA).2.2) := by
  rcases h.2 with ⟨_, h0⟩ | ⟨b, cap, cur, hv, hb, hg, hc, hm, hs, htk⟩
  · omega
  · injection hv with e1 e2 e3
    obtain ⟨k1, k2, k3⟩ := cellsA_at l t ht
    rw [← htk, List.getElem?_take, if_pos (by omega)] at k1 k2 k3
    refine ⟨b, e1, ?_, ?_, ?_⟩
    · simp only [World.cell?, hg]; simpa using k1
    · simp only [World.cell?, hg]; simpa using k2
    · simp only [World.cell?, hg]; simpa using k3
theorem rd35s (l : List Ak) (t : Nat) (h : t < l.length) : rd_T35 (l.map s35) (t : Int) = s35 (l.getD t zA) := by simp [rd_T35, h, List.getD_eq_getElem?_getD]
theorem rd33s (l : List Pl) (t : Nat) (h : t < l.length) : rd_T33 (l.map s33) (t : Int) = s33 (l.getD t (⟨#[]⟩, 0)) := by simp [rd_T33, h, List.getD_eq_getElem?_getD]

attribute [local go_sem high] eqA33 in
set_option maxRecDepth 100000 in
set_option maxHeartbeats 8000000 in
theorem law (A0 A1 : Option Addr) (c0 c1 : Nat) (l0 : List S81) (ls : List (List S81)) (w : World) (hr0 : Kd.C k81 w A0 l0.length l0) (hc0 : l0.length ≤ c0) (hr1 : Kd.C (Kd.slice 81 k81) w A1 ls.length ls) (hc1 : ls.length ≤ c1) :
    Calls Try.prog 3 #[.slice A0 l0.length c0, .slice A1 ls.length c1] w fun e w' => e = .returned (.bool true) ∧ Below w.heap.size w w' := by
  obtain ⟨r1, hv1, hb1⟩ := heavyG ls
  obtain ⟨r2, hv2, hb2⟩ := heavyG [l0]
  obtain ⟨k1, hk1⟩ := hv1.get
  obtain ⟨k2, hk2⟩ := hv2.get
  have B0 : Below w.heap.size w (w.alloc (.cells #[.slice A0 l0.length c0] 22)) := (Below.refl _ w).alloc (Nat.le_refl _) _
  have P1 := Lib.hid (thermographlaw19_heavy.calls k1 A1 c1 ls r1 (w.alloc (.cells #[.slice A0 l0.length c0] 22)) (Kd.C_below hr1 B0) hc1 hk1)
  have P2 := Lib.hid (fun w2 (hb : Below (w.alloc (.cells #[.slice A0 l0.length c0] 22)).heap.size (w.alloc (.cells #[.slice A0 l0.length c0] 22)) w2) => thermographlaw19_heavy.calls k2 (some ⟨w.heap.size, 0, none⟩) 1 [l0] r2 w2 (Kd.C_below (one_C hr0 hc0) hb) (Nat.le_refl _) hk2)
  cases r1 with
  | true =>
    clear hb1 hb2 hk1 hk2 hv1 hv2 hr0 hr1
    go_enter Try.func3, Try.ntmps3
    go_wp2_with (go_at_call 6; (with_reducible refine P1.out.mono ?_); rintro e w1 ⟨rfl, hB1⟩)
    go_ret
    exact ⟨rfl, B0.trans (hB1.mono (by simp))⟩
  | false =>
    cases r2 with
    | true =>
      clear hb1 hb2 hk1 hk2 hv1 hv2 hr0 hr1
      go_enter Try.func3, Try.ntmps3
      go_wp2_with (first
        | (go_at_call 6; (with_reducible refine P1.out.mono ?_); rintro e w1 ⟨rfl, hB1⟩)
        | (go_at_call 6; refine (P2.out w1 hB1).mono ?_; rintro e w2 ⟨rfl, hB2⟩))
      go_ret
      exact ⟨rfl, (B0.trans (hB1.mono (by simp))).trans (hB2.mono (by have := hB1.size; simp at this; omega))⟩
    | false =>
      obtain ⟨hn1, hw1⟩ := hb1 rfl
      have hw2 := (hb2 rfl).2
      have hm1 := wt_mem hw1
      have hm0 : l0.length ≤ 512 := wt_mem hw2 l0 List.mem_cons_self
      have hask := asks_len l0 ls 0 hw1
      have hs0 : l0.length < 4611686018427387904 := by omega
      have hs1 : ls.length < 4611686018427387904 := by omega
      obtain ⟨k3, hk3⟩ := (planF l0 ls hs0 (fun l hl => by have := hm1 l hl; omega) hs1 (by omega)).get
      obtain ⟨k4, hk4⟩ := (alikeF ls (fun l hl => by have := hm1 l hl; omega) hs1).get
      have R0 := Lib.hid hr0
      have R1 := Lib.hid hr1
      have P3 := Lib.hid (fun W (hb : Below w.heap.size w W) => plan A0 A1 c0 c1 l0 ls W (Kd.C_below hr0 hb) hc0 (Kd.C_below hr1 hb) hc1 (fun l hl => by have := hm1 l hl; omega) (by omega))
      have P4 := Lib.hid (fun W (hb : Below w.heap.size w W) => thermographref19_Plan.calls k3 A0 c0 l0 A1 c1 ls ((planL l0 ls).map s35) W (Kd.C_below hr0 hb) hc0 (Kd.C_below hr1 hb) hc1 hk3)
      have P5 := Lib.hid (fun W (hb : Below w.heap.size w W) => alike A1 c1 ls W (Kd.C_below hr1 hb) hc1)
      have P6 := Lib.hid (fun W (hb : Below w.heap.size w W) => thermographref19_Alike.calls k4 A1 c1 ls (alikeL ls) W (Kd.C_below hr1 hb) hc1 hk4)
      have HM := Lib.hid hm1
      have hpl : (planL l0 ls).length ≤ 512 := by
        have : (planL l0 ls).length = (asksF l0 ls 0).length := by simp [planL, sortA]
        omega
      generalize hpl0 : planL l0 ls = pl at P3 P4 hpl
      generalize hal0 : alikeL ls = al0 at P5 P6
      clear hpl0 hal0 hm1 hask hw2 hw1 hk1 hk2 hk3 hk4 hv1 hv2 hb1 hb2 hr0 hr1
      go_enter Try.func3, Try.ntmps3
      go_wp2_with (first
        | (go_at_call 6; (with_reducible refine P1.out.mono ?_); rintro e w1 ⟨rfl, hB1⟩)
        | (go_at_call 6; refine (P2.out w1 hB1).mono ?_; rintro e w2 ⟨rfl, hB2⟩; have hT2 : Below w.heap.size w w2 := (B0.trans (hB1.mono (by simp))).trans (hB2.mono (by have := hB1.size; simp at this; omega)); have hz2 := hT2.size)
        | (go_at_call 7; refine (P3.out w2 hT2).mono ?_; rintro e w3 ⟨v6, rfl, hrow6, hB3⟩; obtain ⟨g6, c6, rfl⟩ := ownsRow_len hrow6; have hT3 := hT2.trans (hB3.mono hz2); have hz3 := hT3.size)
        | (go_at_call 8; refine (P4.out w3 hT3).mono ?_; rintro e w4 ⟨v7, rfl, hrow7, hB4⟩; obtain ⟨g7, c7, rfl⟩ := Kd.R_slice hrow7; have hT4 := hT3.trans (hB4.mono hz3); have hz4 := hT4.size)
        | (go_at_call 9; refine (P5.out w4 hT4).mono ?_; rintro e w5 ⟨rfl, hB5⟩; have hT5 := hT4.trans (hB5.mono hz4); have hz5 := hT5.size)
        | (go_at_call 10; refine (P6.out w5 hT5).mono ?_; rintro e w6 ⟨rfl, hB6⟩; have hT6 := hT5.trans (hB6.mono hz5); have hz6 := hT6.size))
      have hrowW := row_below (row_below (row_below hrow6 hB4) hB5) hB6
      have hC7 := Kd.C_below (Kd.C_below (Kd.R_reads' hrow7).2.2 hB5) hB6
      clear hrow6 hrow7 hB1 hB2 hB3 hB4 hB5 hB6 hT2 hT3 hT4 hT5 hz2 hz3 hz4 hz5 P1 P2 P3 P4 P5 P6
      go_loopg [8] pl.length (fun kx s8 wr => ∃ i : Nat, s8 = .int .i64 i ∧ i ≤ pl.length ∧ pl.length - i ≤ kx ∧ wr.ownsRow w2.heap.size 32 3 (.slice g6 pl.length c6) pl.length (cellsA pl) ∧ Kd.C k35 wr g7 (pl.map s35).length (pl.map s35) ∧ Below w.heap.size w wr)
      case atStart => exact ⟨0, rfl, Nat.zero_le _, Nat.le_refl _, hrowW, hC7, hT6⟩
      case round =>
        clear hrowW hC7 hT6 hz6
        obtain ⟨i, rfl, hi, hkx, hrow, hC, hB⟩ := hrel
        by_cases hlt : i < pl.length
        · have hltz : (i : Int) < (pl.length : Int) := by omega
          obtain ⟨b, rfl, q0, q1, q2⟩ := row_atA hrow i hlt
          obtain ⟨ad, rfl, t0, t1, t2⟩ := at_T35 hC (i : Int) (by omega) (by simp; omega)
          rw [rd35s pl i hlt] at t0 t1 t2
          simp only [Int.toNat_natCast] at t0 t1 t2
          obtain ⟨x, hx⟩ : ∃ x, pl.getD i zA = x := ⟨_, rfl⟩
          rw [hx] at q0 q1 q2 t0 t1 t2
          simp only [s35, s33] at t0 t1 t2
          clear hx
          go_wp2_with fail
          go_region
          go_wp2
          go_roundg (pl.length - (i + 1))
          case measure => omega
          case rel => exact ⟨i + 1, by go_num, by omega, Nat.le_refl _, hrow, Kd.C_drew hC, hB.drew⟩
        · have hltz : ¬ ((i : Int) < (pl.length : Int)) := by omega
          clear hrow hC
          go_wp2
          go_loopg [9] ls.length (fun kx s9 wr => ∃ j : Nat, s9 = .int .i64 j ∧ j ≤ ls.length ∧ ls.length - j ≤ kx ∧ Below w.heap.size w wr)
          case atStart => exact ⟨0, rfl, Nat.zero_le _, Nat.le_refl _, hB⟩
          case round =>
            clear hB
            obtain ⟨j, rfl, hj, hkx2, hB⟩ := hrel
            by_cases hltj : j < ls.length
            · have hltjz : (j : Int) < (ls.length : Int) := by omega
              have hBs := hB.size
              obtain ⟨ad, Aj, cj, rfl, q0, hcj, hrj⟩ := at_L4 (Kd.C_below R1.out hB) (j : Int) (by omega) (by omega)
              simp only [Int.toNat_natCast] at q0
              have hmem := L4_mem ls j hltj
              obtain ⟨y, hy⟩ : ∃ y, rd_L4 ls (j : Int) = y := ⟨_, rfl⟩
              rw [hy] at q0 hcj hrj hmem
              clear hy
              have hyl := HM.out y hmem
              obtain ⟨k5, hk5⟩ := (diffF l0 y hs0 (by omega)).get
              rw [diffR_eq] at hk5
              have D1 := Lib.hid (diff A0 Aj c0 cj l0 y wr (Kd.C_below R0.out hB) hc0 hrj hcj (by omega))
              have D2 := Lib.hid (fun W (hb : Below wr.heap.size wr W) => thermographref19_Diff.calls k5 A0 c0 l0 Aj cj y ((diffL l0 y).map s33) W (Kd.C_below R0.out (hB.trans (hb.mono hBs))) hc0 (Kd.C_below hrj hb) hcj hk5)
              have Q0 := Lib.hid (fun W (hb : Below wr.heap.size wr W) => pw_cell_below hb q0)
              have hdb : (diffL l0 y).length ≤ 512 := Nat.le_trans (diffL_len l0 y) hyl
              generalize hdl : diffL l0 y = dl at D1 D2 hdb
              clear hdl hk5 hrj hyl hmem
              go_wp2_with (first
                | (go_at_call 11; (with_reducible refine D1.out.mono ?_); rintro e w7 ⟨v10, rfl, hrow10, hB7⟩; obtain ⟨g10, c10, rfl⟩ := ownsRow_len hrow10; have q7 := Q0.out w7 hB7)
                | (go_at_call 12; (with_reducible refine (D2.out w7 hB7).mono ?_); rintro e w8 ⟨v11, rfl, hrow11, hB8⟩; obtain ⟨g11, c11, rfl⟩ := Kd.R_slice hrow11))
              have hrowW := row_below hrow10 hB8
              have hC11 := (Kd.R_reads' hrow11).2.2
              have hB9 : Below w.heap.size w w8 := (hB.trans (hB7.mono hBs)).trans (hB8.mono (by have := hB7.size; omega))
              have hB7s := hB7.size
              clear hrow10 hrow11 hB7 hB8 q7 q0 D1 D2 Q0 hB
              obtain ⟨wo, rfl⟩ : ∃ wo, wo = wr := ⟨wr, rfl⟩
              go_loopg [12] dl.length (fun kx s12 wz => ∃ t : Nat, s12 = .int .i64 t ∧ t ≤ dl.length ∧ dl.length - t ≤ kx ∧ wz.ownsRow wo.heap.size 30 2 (.slice g10 dl.length c10) dl.length (cellsP dl) ∧ Kd.C k33 wz g11 (dl.map s33).length (dl.map s33) ∧ Below w.heap.size w wz)
              case atStart => exact ⟨0, rfl, Nat.zero_le _, Nat.le_refl _, hrowW, hC11, hB9⟩
              case round =>
                clear hrowW hC11 hB9
                obtain ⟨t, rfl, ht, hkx3, hrow, hC, hB⟩ := hrel
                by_cases hltt : t < dl.length
                · have hlttz : (t : Int) < (dl.length : Int) := by omega
                  obtain ⟨b, rfl, q0, q1⟩ := row_at hrow t hltt
                  obtain ⟨ad', rfl, t0, t1⟩ := at_T33 hC (t : Int) (by omega) (by simp; omega)
                  rw [rd33s dl t hltt] at t0 t1
                  simp only [Int.toNat_natCast] at t0 t1
                  obtain ⟨p, hp⟩ : ∃ p, dl.getD t (⟨#[]⟩, 0) = p := ⟨_, rfl⟩
                  rw [hp] at q0 q1 t0 t1
                  simp only [s33] at t0 t1
                  clear hp
                  go_wp2_with fail
                  go_region
                  go_wp2
                  go_roundg (dl.length - (t + 1))
                  case measure => omega
                  case rel => exact ⟨t + 1, by go_num, by omega, Nat.le_refl _, hrow, Kd.C_drew hC, hB.drew⟩
                · have hlttz : ¬ ((t : Int) < (dl.length : Int)) := by omega
                  clear hrow hC
                  go_wp2
                  go_roundg (ls.length - (j + 1))
                  case measure => omega
                  case rel => exact ⟨j + 1, by go_num, by omega, Nat.le_refl _, hB⟩
            · have hltjz : ¬ ((j : Int) < (ls.length : Int)) := by omega
              go_wp2
              go_ret
              exact ⟨rfl, hB⟩

#print axioms law
end Go.Proofs.Ytdkhaohjfclceaa.Rp
