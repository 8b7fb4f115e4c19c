/- repair.Plan. -/
import Derived.Test.YtdkhaohjfclceaaRp7
set_option linter.unusedVariables false
set_option linter.unusedSimpArgs false
namespace Go.Proofs.Ytdkhaohjfclceaa.Rp
open Go.RowKit Go.Proofs.Ytdkhaohjfclceaa.Mp Go.Proofs.Ytdkhaohjfclceaa.PRp Go.Proofs.YtdkhaohjfclceaaW.PrintWords

def asksF (l0 : List S81) : List (List S81) → Int → List Ak
  | [], _ => []
  | l :: ls, i => (diffL l0 l).map (fun p => (i, p)) ++ asksF l0 ls (i + 1)
theorem asksF_append (l0 : List S81) : ∀ (a b : List (List S81)) (i : Int), asksF l0 (a ++ b) i = asksF l0 a i ++ asksF l0 b (i + a.length)
  | [], b, i => by simp [asksF]
  | l :: a, b, i => by
    simp only [List.cons_append, asksF, asksF_append l0 a b, List.append_assoc, List.length_cons]
    congr 3
    omega
theorem take_succ_L4 (l : List (List S81)) (k : Nat) (h : k < l.length) : l.take (k + 1) = l.take k ++ [rd_L4 l (k : Int)] := by
  rw [List.take_succ_eq_append_getElem h]
  simp [rd_L4, h]
theorem asksF_take (l0 : List S81) (ls : List (List S81)) (j : Nat) (h : j < ls.length) : asksF l0 (ls.take (j + 1)) 0 = asksF l0 (ls.take j) 0 ++ (diffL l0 (rd_L4 ls (j : Int))).map (fun p => ((j : Int), p)) := by
  rw [take_succ_L4 ls j h, asksF_append]
  simp [asksF, List.length_take, Nat.min_eq_left (Nat.le_of_lt h)]
theorem asksF_prefix (l0 : List S81) (ls : List (List S81)) (j : Nat) : (asksF l0 (ls.take j) 0).length ≤ (asksF l0 ls 0).length := by
  have h := asksF_append l0 (ls.take j) (ls.drop j) 0
  rw [List.take_append_drop] at h
  rw [h]
  simp
theorem asksF_low (l0 : List S81) : ∀ (ls : List (List S81)) (i : Int), ∀ x ∈ asksF l0 ls i, i ≤ x.1
  | [], i, x, h => by simp [asksF] at h
  | l :: ls, i, x, h => by
    simp only [asksF, List.mem_append, List.mem_map] at h
    rcases h with ⟨p, _, rfl⟩ | h
    · exact Int.le_refl _
    · have := asksF_low l0 ls (i + 1) x h; omega
theorem asksF_pairwise (l0 : List S81) : ∀ (ls : List (List S81)) (i : Int), (asksF l0 ls i).Pairwise fun x y => x.1 ≤ y.1
  | [], i => by simp [asksF]
  | l :: ls, i => by
    simp only [asksF, List.pairwise_append, List.pairwise_map]
    refine ⟨List.pairwise_iff_getElem.2 fun _ _ _ _ _ => Int.le_refl _, asksF_pairwise l0 ls (i + 1), ?_⟩
    intro x hx y hy
    simp only [List.mem_map] at hx
    obtain ⟨p, _, rfl⟩ := hx
    have := asksF_low l0 ls (i + 1) y hy
    show i ≤ y.1
    omega
def planL (l0 : List S81) (ls : List (List S81)) : List Ak := sortA (asksF l0 ls 0)
theorem cellsA_snoc (l : List Ak) (x : Ak) : cellsA (l ++ [x]) = cellsA l ++ [.int .i64 x.1, .string x.2.1, .int .i64 x.2.2] := by simp [cellsA, encA]
theorem info32 : (Try.prog.info? 32).map (fun i => (i.zero, i.size, i.bytes)) = some (some (.agg #[.int .i64 0, .string ⟨#[]⟩, .int .i64 0]), 3, 32) := by kernel_rfl
theorem ownsRow_len {W : World} {base : Nat} {e : TypeId} {size : Nat} {v : Value} {k : Nat} {xs : List Value} (h : W.ownsRow base e size v k xs) : ∃ g c, v = .slice g k c := by
  rcases h.2 with ⟨rfl, rfl⟩ | ⟨g, cap, _, rfl, _⟩
  · exact ⟨_, _, rfl⟩
  · exact ⟨_, _, rfl⟩
theorem three_one (a b : Int) (s : ByteArray) : ∀ u ∈ [Value.int .i64 a, .string s, .int .i64 b], u.oneCell' = true := by
  intro u hu
  simp at hu
  rcases hu with rfl | rfl | rfl <;> rfl
theorem cell_three_new (w : World) (x y z : Value) (t : TypeId) : ∀ j u, [x, y, z][j]? = some u → (w.alloc (.cells #[x, y, z] t)).cell? ((⟨w.heap.size, 0, none⟩ : Addr).add j) = some u := by
  intro j u h
  have hb : (w.alloc (.cells #[x, y, z] t)).heap[w.heap.size]? = some (.cells #[x, y, z] t) := World.alloc_heap_new w _
  rcases j with _ | _ | _ | j
  · simp at h; subst h; show World.cell? _ ⟨_, 0, none⟩ = _; simp only [World.cell?, hb]; rfl
  · simp at h; subst h; show World.cell? _ ⟨_, 1, none⟩ = _; simp only [World.cell?, hb]; rfl
  · simp at h; subst h; show World.cell? _ ⟨_, 2, none⟩ = _; simp only [World.cell?, hb]; rfl
  · simp at h
theorem cellsP_at (l : List Pl) (t : Nat) (h : t < l.length) : (cellsP l)[t * 2]? = some (.string (l.getD t (⟨#[]⟩, 0)).1) ∧ (cellsP l)[t * 2 + 1]? = some (.int .i64 (l.getD t (⟨#[]⟩, 0)).2) := by
  induction l generalizing t with
  | nil => simp at h
  | cons p l ih =>
    cases t with
    | zero => simp [cellsP_cons]
    | succ t =>
      have := ih t (by simpa using h)
      rw [cellsP_cons, show (t + 1) * 2 = t * 2 + 1 + 1 by omega]
      simpa using this
/-- An element of an owned row of places. -/
theorem row_at {W : World} {base : Nat} {g : Option Addr} {c : Nat} {l : List Pl} (h : W.ownsRow base 30 2 (.slice g l.length c) l.length (cellsP l)) (t : Nat) (ht : t < l.length) :
    ∃ b, g = some ⟨b, 0, none⟩ ∧ W.cell? ⟨b, t * 2, none⟩ = some (.string (l.getD t (⟨#[]⟩, 0)).1) ∧ W.cell? ⟨b, t * 2 + 1, none⟩ = some (.int .i64 (l.getD t (⟨#[]⟩, 0)).2) := by
  rcases h.2 with ⟨_, h0⟩ | ⟨b, cap, cur, hv, hb, hg, hc, hm, hs, htk⟩
  · omega
  · injection hv with e1 e2 e3
    have hc := cellsP_at l t ht
    refine ⟨b, e1, ?_, ?_⟩
    · simp only [World.cell?, hg]
      rw [← htk, List.getElem?_take, if_pos (by omega)] at hc
      simpa using hc.1
    · simp only [World.cell?, hg]
      have h2 := hc.2
      rw [← htk, List.getElem?_take, if_pos (by omega)] at h2
      simpa using h2
def Sep (v v' : Value) : Prop := v.ownBlock = none ∨ v.ownBlock ≠ v'.ownBlock

theorem sep_of {W W1 : World} {b1 : Nat} {e e' : TypeId} {s s' k k' : Nat} {v v' : Value} {xs xs' : List Value} (h : W.ownsRow b1 e s v k xs) (h' : W1.ownsRow W.heap.size e' s' v' k' xs') : Sep v' v := by
  cases hv : v'.ownBlock with
  | none => exact .inl hv
  | some g =>
    refine .inr fun he => ?_
    have := h'.lt g hv
    have := h.lt g (by rw [← he, hv])
    omega
theorem row_below {W W' : World} {base : Nat} {e : TypeId} {size : Nat} {v : Value} {k : Nat} {xs : List Value} (h : W.ownsRow base e size v k xs) (hb : Below W.heap.size W W') : W'.ownsRow base e size v k xs := by
  refine ⟨h.1, ?_⟩
  rcases h.2 with hn | ⟨g, cap, cur, hv, hbg, hg, rest⟩
  · exact .inl hn
  · exact .inr ⟨g, cap, cur, hv, hbg, (hb.block g (Array.getElem?_eq_some_iff.1 hg).1).trans hg, rest⟩
theorem Sep.step {W : World} {v v' v5 : Value} {base : Nat} {e : TypeId} {s k : Nat} {xs : List Value} (h : Sep v v5) (hr : W.ownsRow base e s v k xs) (ha : v'.ownBlock = v5.ownBlock ∨ v'.ownBlock = some W.heap.size) : Sep v v' := by
  cases hv : v.ownBlock with
  | none => exact .inl hv
  | some g =>
    refine .inr fun he => ?_
    rcases ha with ha | ha
    · rcases h with h | h
      · rw [hv] at h; cases h
      · exact h (he.trans ha)
    · have := hr.lt g hv
      rw [← he, hv] at ha
      cases ha
      omega

set_option maxRecDepth 100000 in
set_option maxHeartbeats 4000000 in
theorem plan (A0 A1 : Option Addr) (c0 c1 : Nat) (l0 : List S81) (ls : List (List S81)) (w : World) (hr0 : Kd.C k81 w A0 l0.length l0) (hc0 : l0.length ≤ c0) (hr1 : Kd.C (Kd.slice 81 k81) w A1 ls.length ls) (hc1 : ls.length ≤ c1)
    (hb : ∀ l ∈ ls, l.length ≤ 4294967296) (hN : (asksF l0 ls 0).length ≤ 4294967296) :
    Calls Try.prog 7 #[.slice A0 l0.length c0, .slice A1 ls.length c1] w fun e w' => ∃ v, e = .returned v ∧ w'.ownsRow w.heap.size 32 3 v (planL l0 ls).length (cellsA (planL l0 ls)) ∧ Below w.heap.size w w' := by
  obtain ⟨i0, hi, hz0, hz1, hz2⟩ := info_parts info32
  have HP0 := Lib.hid hr0
  have HP1 := Lib.hid hr1
  have HL := Lib.hid hb
  have HN := Lib.hid hN
  have hlen : ls.length ≤ 9223372036854775807 := hr1.2.1
  clear hr0 hr1 hb hN
  go_enter Try.func7, Try.ntmps7
  go_wp2
  go_loopg [5, 12] ls.length (fun kx s5 s12 wr => ∃ j : Nat, s12 = .int .i64 j ∧ j ≤ ls.length ∧ ls.length - j ≤ kx ∧ wr.ownsRow w.heap.size 32 3 s5 (asksF l0 (ls.take j) 0).length (cellsA (asksF l0 (ls.take j) 0)) ∧ Below w.heap.size w wr)
  case atStart => exact ⟨0, rfl, Nat.zero_le _, Nat.le_refl _, World.ownsRow_nil _ _ _ _, Below.refl _ _⟩
  case round =>
    obtain ⟨wo, rfl⟩ : ∃ wo, wo = wr := ⟨wr, rfl⟩
    obtain ⟨j, rfl, hj, hkx, hrow, hB⟩ := hrel
    obtain ⟨g5, n5, c5, rfl⟩ := ownsRow_slice hrow
    by_cases hlt : j < ls.length
    · obtain ⟨ad, Aj, cj, rfl, q0, hcj, hrj⟩ := at_L4 (Kd.C_below HP1.out hB) (j : Int) (by omega) (by omega)
      simp only [Int.toNat_natCast] at q0
      have hmem : rd_L4 ls (j : Int) ∈ ls := by
        have : rd_L4 ls (j : Int) = ls[j] := by simp [rd_L4, hlt]
        rw [this]; exact List.getElem_mem hlt
      have htk := asksF_take l0 ls j hlt
      obtain ⟨x, hx⟩ : ∃ x, rd_L4 ls (j : Int) = x := ⟨_, rfl⟩
      rw [hx] at q0 hcj hrj hmem htk
      clear hx
      have HD := Lib.hid (diff A0 Aj c0 cj l0 x wo (Kd.C_below HP0.out hB) hc0 hrj hcj (HL.out x hmem))
      have HT := Lib.hid htk
      have hBs := hB.size
      clear htk hrj
      go_wp2_with (go_at_call 11; refine HD.out.mono ?_; rintro e w1 ⟨v, rfl, hrowd, hB1⟩; have hs1 := hB1.size; obtain ⟨g19, c19, rfl⟩ := ownsRow_len hrowd)
      have hsep : Sep (.slice g19 (diffL l0 x).length c19) (.slice g5 n5 c5) := sep_of hrow hrowd
      have hrow1 := row_below hrow hB1
      obtain ⟨dl, hdl⟩ : ∃ dl, diffL l0 x = dl := ⟨_, rfl⟩
      rw [hdl] at hrowd HT hsep ⊢
      have hdb : dl.length ≤ 4294967296 := by
        have h1 := asksF_prefix l0 ls (j + 1)
        rw [HT.out] at h1
        have h2 := HN.out
        simp at h1
        omega
      clear hdl HD
      go_loopg [5, 21] dl.length (fun kx s5 s21 wz => ∃ t : Nat, s21 = .int .i64 t ∧ t ≤ dl.length ∧ dl.length - t ≤ kx ∧ wz.ownsRow w.heap.size 32 3 s5 (asksF l0 (ls.take j) 0 ++ (dl.take t).map fun p => ((j : Int), p)).length (cellsA (asksF l0 (ls.take j) 0 ++ (dl.take t).map fun p => ((j : Int), p))) ∧ wz.ownsRow wo.heap.size 30 2 (.slice g19 dl.length c19) dl.length (cellsP dl) ∧ Sep (.slice g19 dl.length c19) s5 ∧ Below w.heap.size w wz)
      case atStart => exact ⟨0, rfl, Nat.zero_le _, Nat.le_refl _, by simpa using hrow1, hrowd, hsep, hB.trans (hB1.mono hBs)⟩
      case round =>
        clear hsep hrowd hrow1 hB1
        obtain ⟨t, rfl, ht, hkx2, hrow2, hrowd, hsep, hB2⟩ := hrel
        by_cases hlt2 : t < dl.length
        · obtain ⟨b, rfl, r0, r1⟩ := row_at hrowd t hlt2
          obtain ⟨p, hp⟩ : ∃ p, dl.getD t (⟨#[]⟩, 0) = p := ⟨_, rfl⟩
          rw [hp] at r0 r1
          have hnext : asksF l0 (ls.take j) 0 ++ (dl.take (t + 1)).map (fun p => ((j : Int), p)) = (asksF l0 (ls.take j) 0 ++ (dl.take t).map (fun p => ((j : Int), p))) ++ [((j : Int), p)] := by
            have hp' : dl[t] = p := by rw [← hp]; simp [List.getD_eq_getElem?_getD, hlt2]
            rw [List.take_succ_eq_append_getElem hlt2, hp', List.map_append, List.append_assoc]
            rfl
          have hbnd : (asksF l0 (ls.take j) 0 ++ (dl.take t).map (fun p => ((j : Int), p))).length + 1 ≤ 4294967296 := by
            have h1 := asksF_prefix l0 ls (j + 1)
            rw [HT.out] at h1
            have h2 := HN.out
            simp at h1 ⊢
            omega
          obtain ⟨ol, hol⟩ : ∃ ol, asksF l0 (ls.take j) 0 ++ (dl.take t).map (fun p => ((j : Int), p)) = ol := ⟨_, rfl⟩
          rw [hol] at hrow2 hnext hbnd
          have HX := Lib.hid hnext
          have hml : ol.length + 1 ≤ maxLen := by unfold maxLen; omega
          have hby : (ol.length + 1) * 32 ≤ 140737488355328 := by omega
          have HB := Lib.hid hby
          clear hp hnext hol hby hbnd
          obtain ⟨g6, c6, rfl⟩ := ownsRow_len hrow2
          have hB2s := hB2.size
          have hcells : ∀ q u, [Value.int .i64 (j : Int), .string p.1, .int .i64 p.2][q]? = some u → ((wr.alloc (.cells #[.string p.1, .int .i64 p.2] 30)).alloc (.cells #[.int .i64 (j : Int), .string p.1, .int .i64 p.2] 32)).cell? ((⟨wr.heap.size + 1, 0, none⟩ : Addr).add q) = some u := by
            have := cell_three_new (wr.alloc (.cells #[.string p.1, .int .i64 p.2] 30)) (.int .i64 (j : Int)) (.string p.1) (.int .i64 p.2) 32
            rw [World.size_alloc] at this
            exact this
          have HC := Lib.hid hcells
          clear hcells
          go_wp2_with (at_builtin; refine wpList_append_own_at _ rfl (.tmp 25) (.tmp 29) 25 rfl w.heap.size 32 i0 _ 3 32 Try.underlying25 hi hz0 hz1 hz2 rfl (by decide) _ ol.length (cellsA ol) rfl ((hrow2.alloc _).alloc _) ⟨wr.heap.size + 1, 0, none⟩ 1 1 [.int .i64 (j : Int), .string p.1, .int .i64 p.2] rfl rfl HC.out (three_one _ _ _) hml HB.out (by simp; omega) ?_; intro v' w3 hown' hg3 hnil3 hat3; obtain ⟨g', cap', rfl⟩ := ownsRow_succ hown')
          have hgs := hg3.size
          have hgs' : wr.heap.size + 2 ≤ w3.heap.size := by simpa using hgs
          go_roundg (dl.length - (t + 1))
          case measure => omega
          case rel =>
            refine ⟨t + 1, by go_num, by omega, Nat.le_refl _, ?_, ?_, ?_, ?_⟩
            · rw [HX.out, cellsA_snoc, List.length_append]
              exact hown'
            · exact ((hrowd.alloc _).alloc _).kept hg3 (by rcases hsep with h | h; exact .inl h; exact .inr h)
            · refine Sep.step (W := ((wr.alloc (.cells #[.string p.1, .int .i64 p.2] 30)).alloc (.cells #[.int .i64 (j : Int), .string p.1, .int .i64 p.2] 32))) hsep ((hrowd.alloc _).alloc _) hat3
            · exact ((hB2.alloc hB2s _).alloc (by simp; omega) _).grown hg3 (by simp; omega) (fun q hq => (hrow2.lt q hq).1)
        · have htd : t = dl.length := by omega
          obtain ⟨g6, n6, c6, rfl⟩ := ownsRow_slice hrow2
          have hfin : wr.ownsRow w.heap.size 32 3 (.slice g6 n6 c6) (asksF l0 (ls.take (j + 1)) 0).length (cellsA (asksF l0 (ls.take (j + 1)) 0)) := by
            rw [HT.out]
            rw [htd, List.take_length] at hrow2
            exact hrow2
          clear hrow2 hrowd hsep htd
          go_wp2
          go_roundg (ls.length - (j + 1))
          case measure => omega
          case rel => exact ⟨j + 1, by go_num, by omega, Nat.le_refl _, hfin, hB2⟩
    · have hjl : j = ls.length := by omega
      have hfin : wo.ownsRow w.heap.size 32 3 (.slice g5 n5 c5) (asksF l0 ls 0).length (cellsA (asksF l0 ls 0)) := by
        rw [hjl, List.take_length] at hrow
        exact hrow
      have HSt := Lib.hid (sortStable w.heap.size (.slice g5 n5 c5) (asksF l0 ls 0) wo hfin hB.size (by have := HN.out; omega) (asksF_pairwise l0 ls 0))
      clear hjl hrow hfin
      go_wp2_with (go_at_call 31; refine HSt.out.mono ?_; rintro e w4 ⟨rfl, hrow4, hB4⟩)
      go_ret
      refine ⟨_, rfl, ?_, hB.trans hB4⟩
      have hlen : (planL l0 ls).length = (asksF l0 ls 0).length := by simp [planL, sortA]
      rw [hlen]
      exact hrow4

#print axioms plan
end Go.Proofs.Ytdkhaohjfclceaa.Rp
