/- maps.Equal over places; repair.Alike. -/
import Derived.Test.YtdkhaohjfclceaaRp8
set_option linter.unusedVariables false
set_option linter.unusedSimpArgs false
namespace Go.Proofs.Ytdkhaohjfclceaa.Rp
open Go.RowKit Go.Proofs.Ytdkhaohjfclceaa.Mp Go.Proofs.Ytdkhaohjfclceaa.PRp Go.Proofs.YtdkhaohjfclceaaW.PrintWords

def okP (m2 : List (Pl × Kp)) (p : Pl × Kp) : Bool :=
  match al p.1 m2 with
  | none => false
  | some v => p.2.1 == v.1 && p.2.2 == v.2
def eqM (m1 m2 : List (Pl × Kp)) : Bool := decide (m1.length = m2.length) && m1.all (okP m2)
theorem eqM_false {m1 m2 : List (Pl × Kp)} {p : Pl × Kp} (hp : p ∈ m1) (h : okP m2 p = false) : eqM m1 m2 = false := by
  unfold eqM
  rw [Bool.and_eq_false_iff]
  right
  rw [List.all_eq_false]
  exact ⟨p, hp, by simp [h]⟩
/-- The walk stops at a goal that is laid aside. -/
theorem held {p : Prop} (h : Aside0 p) : p := h.out
theorem vals_len (m : List (Pl × Kp)) : (vals encK m).length = m.length := by simp [vals]

attribute [local go_sem high] eqA93 in
attribute [local go_sem] encP encK in
set_option maxRecDepth 100000 in
set_option maxHeartbeats 2000000 in
theorem mapsEqual (b1 b2 : Nat) (m1 m2 : List (Pl × Kp)) (w : World) (hM1 : MapV encP w b1 (vals encK m1)) (hM2 : MapV encP w b2 (vals encK m2)) :
    Calls Try.prog 35 #[.map (some b1), .map (some b2)] w fun e w' => e = .returned (.bool (eqM m1 m2)) ∧ Below w.heap.size w w' := by
  have hn1 : (m1.map (·.1)).Nodup := by have := hM1.nodup; rwa [vals_keys] at this
  have hb1 := hM1.lt
  have hb2 := hM2.lt
  by_cases hl : m1.length = m2.length
  · obtain ⟨n, hn⟩ : ∃ n, m1.length = n := ⟨_, rfl⟩
    have H1 := Lib.hid ((vals_len m1).trans hn)
    have H2 := Lib.hid ((vals_len m2).trans (hl.symm.trans hn))
    have HL := Lib.hid hl
    clear hl hn
    go_enter Try.func35, Try.ntmps35
    go_wp2_with (first
      | (at_len; refine wp_len_map Try.underlying91 hM1 rfl (.tmp 9) rfl rfl ?_; rw [H1.out])
      | (at_len; refine wp_len_map Try.underlying91 hM2 rfl (.tmp 11) rfl rfl ?_; rw [H2.out])
      | (at_range; refine wp_range_map Try.underlying91 hM1 rfl _ rfl rfl ?_; intro w0 hW0 hg0 hs0 hs0'))
    go_frame
    go_loopg [5] m1.length (fun kx v wr => ∃ left : List (Pl × Kp), Aside0 (left.length = kx) ∧ Walks encP wr w.heap.size b1 (vals encK m1) (vals encK left) ∧ Below w.heap.size w wr ∧ Aside0 (left.Sublist m1 ∧ ∀ p ∈ m1, p ∈ left ∨ okP m2 p = true))
    case atStart => exact ⟨m1, ⟨rfl⟩, hW0, ⟨hg0.os, hg0.tape, hg0.output, hg0.size, fun k hk => hg0.block k hk (by simp)⟩, ⟨⟨List.Sublist.refl _, fun p hp => .inl hp⟩⟩⟩
    case round =>
      clear hW0 hg0 hs0 hs0'
      obtain ⟨left, HLe, hW, hB, HI⟩ := hrel
      have hwr : w.heap.size < wr.heap.size := hW.lt
      go_wp2_with (at_next; refine wp_next_vals keyP.inj hW rfl _ rfl rfl (fun h0 => ?_) (fun p w1 hin hW1 hg1 hs1 hen => held ?_))
      · have HE := Lib.hid h0; clear h0
        have he : eqM m1 m2 = true := by
          unfold eqM
          rw [Bool.and_eq_true]
          refine ⟨decide_eq_true HL.out, List.all_eq_true.2 fun p hp => ?_⟩
          rcases HI.out.2 p hp with h | h
          · rw [HE.out] at h; cases h
          · exact h
        have HQ := Lib.hid he
        clear he
        go_wp2
        go_ret
        exact ⟨by first | (rw [HQ.out]; done) | (rw [HQ.out]; rfl), hB⟩
      · have hs1' := hg1.size
        have hBs := hB.size
        have hB1 : Below w.heap.size w w1 := hB.grown hg1 hBs (fun k hk => by cases hk; exact Nat.le_refl _)
        have hM2' : MapV encP w1 b2 (vals encK m2) := hM2.below hB1 hb2
        have hlt := del_lt hin
        have hpm : p ∈ m1 := HI.out.1.subset hin
        have hB4 : ∀ o1 o2 o3, Below w.heap.size w (((w1.alloc o1).alloc o2).alloc o3) := fun o1 o2 o3 => ((hB1.alloc hB1.size _).alloc (by simp; omega) _).alloc (by simp; omega) _
        have HB4 := Lib.hid hB4
        clear hB4
        cases hal : al p.1 m2 with
        | none =>
          have hal' : al p.1 (vals encK m2) = none := by rw [vals_al, hal]; rfl
          have he : eqM m1 m2 = false := eqM_false hpm (by simp only [okP, hal])
          have HA := Lib.hid hal'
          have HQ := Lib.hid he
          clear he hal hal' hpm
          refine ⟨?_⟩
          go_wp2_with (at_lookup; refine wp_lookup_ok_none keyP Try.underlying91 (zero93 _) ((hM2'.alloc _).alloc _) p.1 HA.out rfl _ _ rfl rfl rfl ?_)
          go_ret
          exact ⟨by first | (rw [HQ.out]; done) | (rw [HQ.out]; rfl), HB4.out _ _ _⟩
        | some v =>
          have hal' : al p.1 (vals encK m2) = some (.agg #[.int .i64 v.1, .int .u32 v.2]) := by rw [vals_al, hal]; rfl
          have HA := Lib.hid hal'
          cases hok : okP m2 p with
          | true =>
            have hv : (p.2.1 == v.1 && p.2.2 == v.2) = true := by simpa only [okP, hal] using hok
            have HO := Lib.hid hok
            clear hal hal' hok
            refine ⟨?_⟩
            go_wp2_with (at_lookup; refine wp_lookup_ok_some keyP Try.underlying91 (zero93 _) ((hM2'.alloc _).alloc _) p.1 _ HA.out rfl _ _ rfl rfl rfl ?_)
            go_roundg (del p.1 left).length
            case measure => rw [← HLe.out]; exact hlt
            case rel =>
              refine ⟨del p.1 left, ⟨rfl⟩, ((hW1.alloc _).alloc _).alloc _, HB4.out _ _ _, ⟨⟨List.filter_sublist.trans HI.out.1, fun q hq => ?_⟩⟩⟩
              rcases HI.out.2 q hq with h | h
              · by_cases e : q.1 = p.1
                · right
                  rw [eq_of_key hn1 hq hpm e]
                  exact HO.out
                · left
                  exact List.mem_filter.2 ⟨h, by simp [e]⟩
              · exact .inr h
          | false =>
            have hv : (p.2.1 == v.1 && p.2.2 == v.2) = false := by simpa only [okP, hal] using hok
            have he : eqM m1 m2 = false := eqM_false hpm hok
            have HQ := Lib.hid he
            clear hal hal' hok he hpm
            refine ⟨?_⟩
            go_wp2_with (at_lookup; refine wp_lookup_ok_some keyP Try.underlying91 (zero93 _) ((hM2'.alloc _).alloc _) p.1 _ HA.out rfl _ _ rfl rfl rfl ?_)
            go_ret
            exact ⟨by first | (rw [HQ.out]; done) | (rw [HQ.out]; rfl), HB4.out _ _ _⟩
  · have he : eqM m1 m2 = false := by unfold eqM; rw [decide_eq_false hl]; rfl
    rw [he]
    clear he
    obtain ⟨n, hn⟩ : ∃ n, m1.length = n := ⟨_, rfl⟩
    obtain ⟨n', hn'⟩ : ∃ n', m2.length = n' := ⟨_, rfl⟩
    rw [hn, hn'] at hl
    have hlz : ¬ ((n : Int) = (n' : Int)) := by omega
    have H1 := Lib.hid ((vals_len m1).trans hn)
    have H2 := Lib.hid ((vals_len m2).trans hn')
    clear hn hn'
    go_enter Try.func35, Try.ntmps35
    go_wp2_with (first
      | (at_len; refine wp_len_map Try.underlying91 hM1 rfl (.tmp 9) rfl rfl ?_; rw [H1.out])
      | (at_len; refine wp_len_map Try.underlying91 hM2 rfl (.tmp 11) rfl rfl ?_; rw [H2.out]))
    go_ret
    exact ⟨rfl, Below.refl _ _⟩

#print axioms mapsEqual
end Go.Proofs.Ytdkhaohjfclceaa.Rp
