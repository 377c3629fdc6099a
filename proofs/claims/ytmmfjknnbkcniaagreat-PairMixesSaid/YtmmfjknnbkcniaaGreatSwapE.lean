/- slices.swapRangeCmpFunc and slices.rotateCmpFunc at weir/api.Elem: what the row holds behind them. -/
import Derived.Test.YtmmfjknnbkcniaaGreatStabAll
import Derived.Test.YtmmfjknnbkcniaaGreatProg
import Derived.Shelf.SlSortCmp.KitK
import Derived.Sort.WalkB2
import Derived.Sort.WalkB12
import Derived.Deep.LoopGhost
namespace Go.Proofs.YtmmfjknnbkcniaaGreat
open Go.Shelf Go.RowKit Go.Lib Go.Sort Go.Stab
set_option linter.unusedVariables false
set_option linter.unusedSimpArgs false

section
variable {enc : Nat → List Value} {k blk off cap : Nat} {d0 : Array Nat} {w0 : World}

/-- The row behind a run of exchanges. -/
def SwapPostE (enc : Nat → List Value) (k : Nat) (w0 : World) (blk off a b n : Nat) (d : Array Nat) (e : Ending) (w' : World) : Prop :=
  e = .returned (.tuple #[]) ∧ ∃ d' : Array Nat, SWK enc k w0 blk off d' w' ∧ d'.size = d.size ∧ (∀ t, d'[t]! = swrF (fun t => d[t]!) a b n t) ∧ PermIn a (b + n) d d'
/-- The row behind a rotation. -/
def RotPostE (enc : Nat → List Value) (k : Nat) (w0 : World) (blk off a m b : Nat) (d : Array Nat) (e : Ending) (w' : World) : Prop :=
  e = .returned (.tuple #[]) ∧ ∃ d' : Array Nat, SWK enc k w0 blk off d' w' ∧ d'.size = d.size ∧ (∀ t, d'[t]! = rotF (fun t => d[t]!) a m b t) ∧ PermIn a b d d'

set_option maxHeartbeats 4000000 in
set_option maxRecDepth 1000000 in
theorem swapRangeE (aE : ∀ w, (isAgg 31).run Tryz.prog w = .ok true w) (zE : ∀ w, (Go.sizeOf 31).run Tryz.prog w = .ok k w) (g : Nat) (cb : Array Value) (a b n : Nat) (d : Array Nat) (w : World) (R : RowK enc k w0 blk off d0) (hs : d0.size = d.size) (S : SWK enc k w0 blk off d w) (hab : a + n ≤ b) (hb : b + n ≤ d.size) (hsz : d.size < 2305843009213693952) :
    Calls Tryz.prog 116 #[.slice (some ⟨blk, off, none⟩) d.size cap, .int .i64 a, .int .i64 b, .int .i64 n, .func (.func g) #[] cb] w (SwapPostE enc k w0 blk off a b n d) := by
  have S0 : Aside (SWK enc k w0 blk off d w) := S
  clear S
  go_enter Tryz.func116, Tryz.ntmps116
  go_wp2
  go_loopg [10] n (fun kx s10 wr => ∃ (i : Nat) (dk : Array Nat), s10 = .int .i64 i ∧ i ≤ n ∧ n - i ≤ kx ∧ dk.size = d.size ∧ Aside (SWK enc k w0 blk off dk wr) ∧ Hid (∀ t, dk[t]! = swrF (fun t => d[t]!) a b i t) ∧ Hid (PermIn a (b + n) d dk))
  case atStart => exact ⟨0, d, rfl, by omega, by omega, rfl, S0, (fun t => (swrF_zero _ a b t).symm), permIn_refl _ _ _⟩
  case round =>
    clear S0
    obtain ⟨i, dk, rfl, hi, hkx, hds, S1, HD, HP⟩ := hrel
    by_cases hlt : i < n
    · have hltz : (i : Int) < (n : Int) := by omega
      have ea1 : ((a : Int) + (i : Int)).toNat = a + i := by omega
      have pa1 : (0 : Int) ≤ (a : Int) + (i : Int) := by omega
      have ba1 : (a : Int) + (i : Int) < (d.size : Int) := by omega
      have ra1 : IntKind.i64.wrap ((a : Int) + (i : Int)) = (a : Int) + (i : Int) := by rw [IntKind.wrap_i64]; omega
      have ec1 : ((b : Int) + (i : Int)).toNat = b + i := by omega
      have pc1 : (0 : Int) ≤ (b : Int) + (i : Int) := by omega
      have bc1 : (b : Int) + (i : Int) < (d.size : Int) := by omega
      have rc1 : IntKind.i64.wrap ((b : Int) + (i : Int)) = (b : Int) + (i : Int) := by rw [IntKind.wrap_i64]; omega
      have S2 : Aside (SWK enc k w0 blk off (swp dk (a + i) (b + i)) ((wr.drew.setCells blk (off + (a + i) * k) (enc dk[b + i]!)).setCells blk (off + (b + i) * k) (enc dk[a + i]!))) := S1.out.swapped R (a + i) (b + i) (by omega) (by omega)
      have l1a := S1.out.ld1 R (by omega) Tryz.prog (a + i) (by omega)
      have l1b := S1.out.ld1 R (by omega) Tryz.prog (b + i) (by omega)
      have s1a := S1.out.st1 R (by omega) Tryz.prog (a + i) (by omega) dk[b + i]!
      have s1b := S1.out.st2 R (by omega) Tryz.prog (a + i) (b + i) (by omega) (by omega) dk[b + i]! dk[a + i]!
      have n1a : (enc dk[a + i]!).length = k := R.hk _
      have n1b : (enc dk[b + i]!).length = k := R.hk _
      generalize enc dk[a + i]! = cI1 at S2 l1a s1b n1a
      generalize enc dk[b + i]! = cJ1 at S2 l1b s1a s1b n1b
      clear S1
      go_wp2_with fail
      go_big_region
      clear l1a l1b s1a s1b
      generalize (wr.drew.setCells blk (off + (a + i) * k) cJ1).setCells blk (off + (b + i) * k) cI1 = w2 at S2 ⊢
      go_wp2
      go_roundg (n - (i + 1))
      case measure => omega
      case rel =>
        refine ⟨i + 1, swp dk (a + i) (b + i), by go_num, by omega, Nat.le_refl _, by rw [size_swp]; exact hds, S2, (fun t => ?_), permIn_trans _ _ _ _ _ HP.out (swp_permIn _ _ _ _ _ (by omega) (by omega) (by omega) (by omega) (by omega))⟩
        rw [swp_get dk (by omega) (by omega), HD.out (a + i), HD.out (b + i), HD.out t]
        exact swrF_succ _ (by omega) t
    · have hltz : ¬ (i : Int) < (n : Int) := by omega
      have hin : i = n := by omega
      subst hin
      go_wp2
      go_end0
      exact ⟨rfl, dk, S1.out, hds, HD.out, HP.out⟩

set_option maxHeartbeats 4000000 in
set_option maxRecDepth 1000000 in
theorem rotateE (aE : ∀ w, (isAgg 31).run Tryz.prog w = .ok true w) (zE : ∀ w, (Go.sizeOf 31).run Tryz.prog w = .ok k w) (g : Nat) (cb : Array Value) (a m b : Nat) (d : Array Nat) (w : World) (R : RowK enc k w0 blk off d0) (hs : d0.size = d.size) (S : SWK enc k w0 blk off d w) (ham : a < m) (hmb : m < b) (hb : b ≤ d.size) (hsz : d.size < 2305843009213693952) :
    Calls Tryz.prog 91 #[.slice (some ⟨blk, off, none⟩) d.size cap, .int .i64 a, .int .i64 m, .int .i64 b, .func (.func g) #[] cb] w (RotPostE enc k w0 blk off a m b d) := by
  have S0 : Aside (SWK enc k w0 blk off d w) := S
  clear S
  go_enter Tryz.func91, Tryz.ntmps91
  go_wp2
  go_loopg [10, 11] b (fun kx s10 s11 wr => ∃ (i j : Nat) (dk : Array Nat), s10 = .int .i64 i ∧ s11 = .int .i64 j ∧ 0 < i ∧ 0 < j ∧ a + i ≤ m ∧ m + j ≤ b ∧ i + j ≤ kx ∧ dk.size = d.size ∧ Aside (SWK enc k w0 blk off dk wr) ∧ Hid (∀ t, rotF (fun t => dk[t]!) (m - i) m (m + j) t = rotF (fun t => d[t]!) a m b t) ∧ Hid (PermIn a b d dk))
  case atStart => exact ⟨m - a, b - m, d, by go_num, by go_num, by omega, by omega, by omega, by omega, by omega, rfl, S0, (fun t => by rw [show m - (m - a) = a by omega, show m + (b - m) = b by omega]), permIn_refl _ _ _⟩
  case round =>
    clear S0
    obtain ⟨i, j, dk, rfl, rfl, hi, hj, hai, hjb, hkx, hds, S1, HD, HP⟩ := hrel
    have e1 : (m : Int) - (i : Int) = ((m - i : Nat) : Int) := by omega
    have r1 : IntKind.i64.wrap ((m : Int) - (i : Int)) = (m : Int) - (i : Int) := by rw [IntKind.wrap_i64]; omega
    by_cases hij : i = j
    · subst hij
      go_wp2_with fail
      rw [← hds]
      refine (swapRangeE aE zE g cb (m - i) m i dk _ R (by omega) S1.out (by omega) (by omega) (by omega)).mono ?_
      rintro e w1 ⟨rfl, d1, S2, hd1, HD1, HP1⟩
      go_wp2_with fail
      go_end0
      refine ⟨rfl, d1, S2, by rw [hd1]; exact hds, fun t => ?_, permIn_trans _ _ _ _ _ HP.out (permIn_mono _ _ _ _ _ _ (by omega) (by omega) (by omega) HP1)⟩
      rw [HD1, rot_end _ (by omega)]; exact HD.out t
    · by_cases hlt : j < i
      · have hne : ((i : Int) == (j : Int)) = false := by simp; omega
        have hltz : (j : Int) < (i : Int) := by omega
        clear hij
        go_wp2_with fail
        rw [← hds]
        refine (swapRangeE aE zE g cb (m - i) m j dk _ R (by omega) S1.out (by omega) (by omega) (by omega)).mono ?_
        rintro e w1 ⟨rfl, d1, S2, hd1, HD1, HP1⟩
        have S2' : Aside (SWK enc k w0 blk off d1 w1) := S2
        clear S1 S2
        go_wp2_with fail
        go_roundg (i - j + j)
        case measure => omega
        case rel =>
          refine ⟨i - j, j, d1, by go_num, rfl, by omega, hj, by omega, hjb, Nat.le_refl _, by omega, S2', (fun t => ?_), permIn_trans _ _ _ _ _ HP.out (permIn_mono _ _ _ _ _ _ (by omega) (by omega) (by omega) HP1)⟩
          rw [← HD.out t, ← rot_left (fun t => dk[t]!) (m := m) (i := i) (j := j) (by omega) hlt t]
          exact rotF_congr HD1 _ _ _ t
      · have hne : ((i : Int) == (j : Int)) = false := by simp; omega
        have hltz : ¬ (j : Int) < (i : Int) := by omega
        have e2 : (m : Int) + (j : Int) - (i : Int) = ((m + j - i : Nat) : Int) := by omega
        have hgt : i < j := by omega
        clear hij
        go_wp2_with fail
        rw [← hds]
        refine (swapRangeE aE zE g cb (m - i) (m + j - i) i dk _ R (by omega) S1.out (by omega) (by omega) (by omega)).mono ?_
        rintro e w1 ⟨rfl, d1, S2, hd1, HD1, HP1⟩
        have S2' : Aside (SWK enc k w0 blk off d1 w1) := S2
        clear S1 S2
        go_wp2_with fail
        go_roundg (i + (j - i))
        case measure => omega
        case rel =>
          refine ⟨i, j - i, d1, rfl, by go_num, hi, by omega, hai, by omega, Nat.le_refl _, by omega, S2', (fun t => ?_), permIn_trans _ _ _ _ _ HP.out (permIn_mono _ _ _ _ _ _ (by omega) (by omega) (by omega) HP1)⟩
          rw [← HD.out t, ← rot_right (fun t => dk[t]!) (m := m) (i := i) (j := j) (by omega) hgt t]
          exact rotF_congr HD1 _ _ _ t

end
end Go.Proofs.YtmmfjknnbkcniaaGreat
