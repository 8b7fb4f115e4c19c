/- The stable sort: swapRange and rotate, walked. -/
import Derived.Test.YtdkhaohjfclceaaProg
import Derived.Test.YtdkhaohjfclceaaSt0
import Derived.Shelf.SlSortCmp.KitK
import Derived.Shelf.SlSortFuncK.PartitionK
import Derived.Sort.WalkC4
import Derived.Sort.WalkB2
import Derived.Sort.WalkB12
import Derived.Deep.LoopGhost
set_option linter.unusedVariables false
set_option linter.unusedSimpArgs false
namespace Go.Proofs.Ytdkhaohjfclceaa.St
open Go.Proofs Go.Shelf Go.RowKit Go.Lib Go.Sort
variable {P : Program} {α : Type} [Inhabited α]

/-- What the walks ask of the program: its bodies; its types. (P is a variable so that an element's size stays one.) -/
structure StL (P : Program) : Prop where
  mixed : P.follows .mixedOrders = true
  f127 : P.funcs[127]? = some Try.f127
  f97 : P.funcs[97]? = some Try.f97
  f80 : P.funcs[80]? = some Try.f80
  t0 : P.underlying 0 = some (TypeDesc.tuple #[])
  a0 : ∀ w, (isAgg 0).run P w = .ok false w
  z0 : ∀ w, (Go.sizeOf 0).run P w = .ok 1 w
  v0 : ∀ w, (zeroValue 0).run P w = .ok (Value.tuple #[]) w
  t3 : P.underlying 3 = some (TypeDesc.int IntKind.i64)
  a3 : ∀ w, (isAgg 3).run P w = .ok false w
  z3 : ∀ w, (Go.sizeOf 3).run P w = .ok 1 w
  v3 : ∀ w, (zeroValue 3).run P w = .ok (Value.int IntKind.i64 0) w
  t4 : P.underlying 4 = some (TypeDesc.bool)
  a4 : ∀ w, (isAgg 4).run P w = .ok false w
  z4 : ∀ w, (Go.sizeOf 4).run P w = .ok 1 w
  v4 : ∀ w, (zeroValue 4).run P w = .ok (Value.bool false) w
  t25 : P.underlying 25 = some (TypeDesc.slice 32)
  a25 : ∀ w, (isAgg 25).run P w = .ok false w
  z25 : ∀ w, (Go.sizeOf 25).run P w = .ok 1 w
  v25 : ∀ w, (zeroValue 25).run P w = .ok (Value.slice none 0 0) w
  t88 : P.underlying 88 = some (TypeDesc.func #[32, 32] #[3] false)
  a88 : ∀ w, (isAgg 88).run P w = .ok false w
  z88 : ∀ w, (Go.sizeOf 88).run P w = .ok 1 w
  v88 : ∀ w, (zeroValue 88).run P w = .ok (Value.nilFunc) w
  t150 : P.underlying 150 = some (TypeDesc.int IntKind.u64)
  a150 : ∀ w, (isAgg 150).run P w = .ok false w
  z150 : ∀ w, (Go.sizeOf 150).run P w = .ok 1 w
  v150 : ∀ w, (zeroValue 150).run P w = .ok (Value.int IntKind.u64 0) w

set_option maxHeartbeats 4000000 in
set_option maxRecDepth 1000000 in
theorem swapRange (L : StL P) (k : Nat) (aE : ∀ w, (isAgg 32).run P w = .ok true w) (zE : ∀ w, (Go.sizeOf 32).run P w = .ok k w) (enc : α → List Value) (g : Nat) (cb : Array Value) (blk off cap a b n : Nat) (d0 d : Array α) (w0 w : World)
    (R : RowK enc k w0 blk off d0) (hs : d0.size = d.size) (S : SWK enc k w0 blk off d w) (hab : a + n ≤ b) (hb : b + n ≤ d.size) (hsz : d.size < 4611686018427387904) :
    Calls P 127 #[.slice (some ⟨blk, off, none⟩) d.size cap, .int .i64 a, .int .i64 b, .int .i64 n, .func (.func g) #[] cb] w fun e w' =>
      e = .returned (.tuple #[]) ∧ ∃ d', Bs d d' a b n ∧ PermIn a (b + n) d d' ∧ SWK enc k w0 blk off d' w' := by
  have mixed := L.mixed; have t0 := L.t0; have a0 := L.a0; have z0 := L.z0; have v0 := L.v0; have t3 := L.t3; have a3 := L.a3; have z3 := L.z3; have v3 := L.v3; have t4 := L.t4; have a4 := L.a4; have z4 := L.z4; have v4 := L.v4; have t25 := L.t25; have a25 := L.a25; have z25 := L.z25; have v25 := L.v25; have t88 := L.t88; have a88 := L.a88; have z88 := L.z88; have v88 := L.v88
  have FG := L.f127
  have S0 : Aside (SWK enc k w0 blk off d w) := S
  clear S
  go_enter FG, Try.ntmps127
  go_wp2
  go_loopg [10] n (fun kx s10 wr => ∃ (i : Nat) (dk : Array α), s10 = .int .i64 i ∧ i ≤ n ∧ n - i ≤ kx ∧ dk.size = d.size ∧ Aside (SWK enc k w0 blk off dk wr) ∧ Hid (Bs d dk a b i) ∧ Hid (PermIn a (b + n) d dk))
  case atStart => exact ⟨0, d, rfl, Nat.zero_le _, by omega, rfl, S0, Bs.zero d a b, permIn_refl d a (b + n)⟩
  case round =>
    clear S0
    obtain ⟨i, dk, rfl, hin, hkx, hds, S1, HB, HP⟩ := hrel
    by_cases hlt : i < n
    · have hltz : (i : Int) < (n : Int) := by omega
      go_wp2_with fail
      have ea44 : ((a : Int) + (i : Int)).toNat = a + i := by omega
      have pa44 : (0 : Int) ≤ (a : Int) + (i : Int) := by omega
      have ba44 : (a : Int) + (i : Int) < (d.size : Int) := by omega
      have ra44 : IntKind.i64.wrap ((a : Int) + (i : Int)) = (a : Int) + (i : Int) := by rw [IntKind.wrap_i64]; omega
      have ec44 : ((b : Int) + (i : Int)).toNat = b + i := by omega
      have pc44 : (0 : Int) ≤ (b : Int) + (i : Int) := by omega
      have bc44 : (b : Int) + (i : Int) < (d.size : Int) := by omega
      have rc44 : IntKind.i64.wrap ((b : Int) + (i : Int)) = (b : Int) + (i : Int) := by rw [IntKind.wrap_i64]; omega
      have S2 : Aside (SWK enc k w0 blk off (swp dk (a + i) (b + i)) ((wr.drew.setCells blk (off + (a + i) * k) (enc dk[b + i]!)).setCells blk (off + (b + i) * k) (enc dk[a + i]!))) := S1.out.swapped R (a + i) (b + i) (by omega) (by omega)
      have l44a := S1.out.ld1 R (by omega) P (a + i) (by omega)
      have l44b := S1.out.ld1 R (by omega) P (b + i) (by omega)
      have s44a := S1.out.st1 R (by omega) P (a + i) (by omega) dk[b + i]!
      have s44b := S1.out.st2 R (by omega) P (a + i) (b + i) (by omega) (by omega) dk[b + i]! dk[a + i]!
      have n44a : (enc dk[a + i]!).length = k := R.hk _
      have n44b : (enc dk[b + i]!).length = k := R.hk _
      generalize enc dk[a + i]! = cI44 at S2 l44a s44b n44a
      generalize enc dk[b + i]! = cJ44 at S2 l44b s44a s44b n44b
      clear S1
      go_wp2_with fail
      go_big_region_o
      clear l44a l44b s44a s44b
      generalize (wr.drew.setCells blk (off + (a + i) * k) cJ44).setCells blk (off + (b + i) * k) cI44 = w2 at S2 ⊢
      go_wp2
      go_roundg (n - (i + 1))
      case measure => omega
      case rel => exact ⟨i + 1, swp dk (a + i) (b + i), by go_num, by omega, Nat.le_refl _, by rw [size_swp]; exact hds, S2, HB.out.step (by omega) (by omega), permIn_trans _ _ _ _ _ HP.out (swp_permIn dk a (b + n) (a + i) (b + i) (by omega) (by omega) (by omega) (by omega) (by omega))⟩
    · obtain rfl : i = n := by omega
      go_wp2
      go_end0
      exact ⟨rfl, dk, HB.out, HP.out, S1.out⟩

theorem Bs.size {d d' : Array α} {a b n : Nat} (h : Bs d d' a b n) : d'.size = d.size := h.1

set_option maxHeartbeats 4000000 in
set_option maxRecDepth 1000000 in
theorem rotate (L : StL P) (k : Nat) (aE : ∀ w, (isAgg 32).run P w = .ok true w) (zE : ∀ w, (Go.sizeOf 32).run P w = .ok k w) (enc : α → List Value) (g : Nat) (cb : Array Value) (blk off cap a m b : Nat) (d0 d : Array α) (w0 w : World)
    (R : RowK enc k w0 blk off d0) (hs : d0.size = d.size) (S : SWK enc k w0 blk off d w) (ham : a < m) (hmb : m < b) (hb : b ≤ d.size) (hsz : d.size < 4611686018427387904) :
    Calls P 97 #[.slice (some ⟨blk, off, none⟩) d.size cap, .int .i64 a, .int .i64 m, .int .i64 b, .func (.func g) #[] cb] w fun e w' =>
      e = .returned (.tuple #[]) ∧ ∃ d', Rot d d' a m b ∧ PermIn a b d d' ∧ SWK enc k w0 blk off d' w' := by
  have mixed := L.mixed; have t0 := L.t0; have a0 := L.a0; have z0 := L.z0; have v0 := L.v0; have t3 := L.t3; have a3 := L.a3; have z3 := L.z3; have v3 := L.v3; have t4 := L.t4; have a4 := L.a4; have z4 := L.z4; have v4 := L.v4; have t25 := L.t25; have a25 := L.a25; have z25 := L.z25; have v25 := L.v25; have t88 := L.t88; have a88 := L.a88; have z88 := L.z88; have v88 := L.v88
  have FG := L.f97
  have e127 : ∀ args w, (callFunc 127 args).run P w = .ok (.enter 127 args) w := enters_of L.f127 (by kernel_rfl) rfl
  have S0 : Aside (SWK enc k w0 blk off d w) := S
  clear S
  have i0 : (m : Int) - (a : Int) = ((m - a : Nat) : Int) := by omega
  have j0 : (b : Int) - (m : Int) = ((b - m : Nat) : Int) := by omega
  go_enter FG, Try.ntmps97
  go_wp2
  go_loopg [10, 11] (b - a) (fun kx s10 s11 wr => ∃ (i j : Nat) (dk : Array α), s10 = .int .i64 i ∧ s11 = .int .i64 j ∧ 0 < i ∧ 0 < j ∧ a + i ≤ m ∧ m + j ≤ b ∧ i + j ≤ kx ∧ dk.size = d.size ∧ Aside (SWK enc k w0 blk off dk wr) ∧ Hid (∀ x, rotf (m - i) m (m + j) dk x = rotf a m b d x) ∧ Hid (PermIn a b d dk))
  case atStart => exact ⟨m - a, b - m, d, by go_num, by go_num, by omega, by omega, by omega, by omega, by omega, rfl, S0, (by intro x; rw [show m - (m - a) = a by omega, show m + (b - m) = b by omega]), permIn_refl d a b⟩
  case round =>
    clear S0
    obtain ⟨i, j, dk, rfl, rfl, hi0, hj0, hai, hjb, hkx, hds, S1, HR, HP⟩ := hrel
    have ci : (m : Int) - (i : Int) = ((m - i : Nat) : Int) := by omega
    have cj : ((m : Int) + (j : Int)) - (i : Int) = ((m + j - i : Nat) : Int) := by omega
    by_cases hij : i = j
    · subst hij
      have hcall := swapRange L k aE zE enc g cb blk off cap (m - i) m i d0 dk w0 wr R (by omega) S1.out (by omega) (by omega) (by omega)
      rw [hds] at hcall
      clear S1
      go_wp2_with (go_at_fn 127; refine hcall.mono ?_; rintro e w1 ⟨rfl, d', hB, hP, S3⟩)
      go_end0
      refine ⟨rfl, d', ⟨by rw [hB.1]; exact hds, fun x => ?_⟩, ?_, S3⟩
      · rw [← HR.out, rot_end (by omega) hB]
      · exact permIn_trans _ _ _ _ _ HP.out (permIn_mono _ _ _ _ _ _ (by omega) (by omega) (by omega) hP)
    · have hijz : ¬ ((i : Int) = (j : Int)) := by omega
      by_cases hgt : j < i
      · have hgtz : (j : Int) < (i : Int) := by omega
        have hcall := swapRange L k aE zE enc g cb blk off cap (m - i) m j d0 dk w0 wr R (by omega) S1.out (by omega) (by omega) (by omega)
        rw [hds] at hcall
        clear S1
        have cij : (i : Int) - (j : Int) = ((i - j : Nat) : Int) := by omega
        go_wp2_with (go_at_fn 127; refine hcall.mono ?_; rintro e w1 ⟨rfl, d', hB, hP, S3⟩)
        go_roundg (i - j + j)
        case measure => omega
        case rel => exact ⟨i - j, j, d', by go_num, rfl, by omega, by omega, by omega, by omega, Nat.le_refl _, by rw [hB.1]; exact hds, S3, (by intro x; rw [← HR.out, rot_left (by omega) hgt hB]), permIn_trans _ _ _ _ _ HP.out (permIn_mono _ _ _ _ _ _ (by omega) (by omega) (by omega) hP)⟩
      · have hgtz : ¬ ((j : Int) < (i : Int)) := by omega
        have hcall := swapRange L k aE zE enc g cb blk off cap (m - i) (m + j - i) i d0 dk w0 wr R (by omega) S1.out (by omega) (by omega) (by omega)
        rw [hds] at hcall
        clear S1
        have cij : (j : Int) - (i : Int) = ((j - i : Nat) : Int) := by omega
        go_wp2_with (go_at_fn 127; refine hcall.mono ?_; rintro e w1 ⟨rfl, d', hB, hP, S3⟩)
        go_roundg (i + (j - i))
        case measure => omega
        case rel => exact ⟨i, j - i, d', rfl, by go_num, by omega, by omega, by omega, by omega, Nat.le_refl _, by rw [hB.1]; exact hds, S3, (by intro x; rw [← HR.out, rot_right (by omega) (by omega) hB]), permIn_trans _ _ _ _ _ HP.out (permIn_mono _ _ _ _ _ _ (by omega) (by omega) (by omega) hP)⟩

#print axioms swapRange
#print axioms rotate
end Go.Proofs.Ytdkhaohjfclceaa.St
