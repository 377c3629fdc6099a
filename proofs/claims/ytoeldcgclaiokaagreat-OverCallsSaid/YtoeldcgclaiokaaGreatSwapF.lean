/- slices.swapRangeCmpFunc and slices.rotateCmpFunc at float64: what the row holds behind them. -/
import Derived.Test.YtoeldcgclaiokaaGreatStabAll
import Derived.Test.YtoeldcgclaiokaaGreatProg
import Derived.Shelf.SlSortCmp.Kit1
import Derived.Sort.WalkB2
import Derived.Sort.WalkB12
import Derived.Deep.LoopGhost
namespace Go.Proofs.YtoeldcgclaiokaaGreat
open Go.Shelf Go.RowKit Go.Lib Go.Sort Go.Stab
set_option linter.unusedVariables false
set_option linter.unusedSimpArgs false

section
variable {enc : Nat → Value} {blk off cap : Nat} {d0 : Array Nat} {w0 : World}

/-- The row behind a run of exchanges. -/
def SwapPostF (enc : Nat → Value) (w0 : World) (blk off a b n : Nat) (d : Array Nat) (e : Ending) (w' : World) : Prop :=
  e = .returned (.tuple #[]) ∧ ∃ d' : Array Nat, SW enc w0 blk off d' w' ∧ d'.size = d.size ∧ (∀ t, d'[t]! = swrF (fun t => d[t]!) a b n t) ∧ PermIn a (b + n) d d'
/-- The row behind a rotation. -/
def RotPostF (enc : Nat → Value) (w0 : World) (blk off a m b : Nat) (d : Array Nat) (e : Ending) (w' : World) : Prop :=
  e = .returned (.tuple #[]) ∧ ∃ d' : Array Nat, SW enc w0 blk off d' w' ∧ d'.size = d.size ∧ (∀ t, d'[t]! = rotF (fun t => d[t]!) a m b t) ∧ PermIn a b d d'

set_option maxHeartbeats 4000000 in
set_option maxRecDepth 1000000 in
theorem swapRangeF (g : Nat) (cb : Array Value) (a b n : Nat) (d : Array Nat) (w : World) (R : Row1 enc w0 blk off d0) (hs : d0.size = d.size) (S : SW enc w0 blk off d w) (hab : a + n ≤ b) (hb : b + n ≤ d.size) (hsz : d.size < 2305843009213693952) :
    Calls Tryz.prog 115 #[.slice (some ⟨blk, off, none⟩) d.size cap, .int .i64 a, .int .i64 b, .int .i64 n, .func (.func g) #[] cb] w (SwapPostF enc w0 blk off a b n d) := by
  have hcl0 := R.hO.cells
  simp only [Value.cells] at hcl0
  have hst := R.hO.store Tryz.prog
  have S0 : Aside (SW enc w0 blk off d w) := S
  clear S
  go_enter Tryz.func115, Tryz.ntmps115
  go_wp2
  go_loopg [10] n (fun kx s10 wr => ∃ (i : Nat) (dk : Array Nat), s10 = .int .i64 i ∧ i ≤ n ∧ n - i ≤ kx ∧ dk.size = d.size ∧ Aside (SW enc w0 blk off dk wr) ∧ Hid (∀ t, dk[t]! = swrF (fun t => d[t]!) a b i t) ∧ Hid (PermIn a (b + n) d dk))
  case atStart => exact ⟨0, d, rfl, by omega, by omega, rfl, S0, (fun t => (swrF_zero _ a b t).symm), permIn_refl _ _ _⟩
  case round =>
    clear S0
    obtain ⟨i, dk, rfl, hi, hkx, hds, S1, HD, HP⟩ := hrel
    by_cases hlt : i < n
    · have hltz : (i : Int) < (n : Int) := by omega
      obtain ⟨iN1, hiN1⟩ : ∃ zz, zz = a + i := ⟨_, rfl⟩
      obtain ⟨jN1, hjN1⟩ : ∃ zz, zz = b + i := ⟨_, rfl⟩
      have ea1 : ((a : Int) + (i : Int)).toNat = iN1 := by omega
      have pa1 : (0 : Int) ≤ (a : Int) + (i : Int) := by omega
      have ba1 : (a : Int) + (i : Int) < (d.size : Int) := by omega
      have ra1 : IntKind.i64.wrap ((a : Int) + (i : Int)) = (a : Int) + (i : Int) := by rw [IntKind.wrap_i64]; omega
      have ec1 : ((b : Int) + (i : Int)).toNat = jN1 := by omega
      have pc1 : (0 : Int) ≤ (b : Int) + (i : Int) := by omega
      have bc1 : (b : Int) + (i : Int) < (d.size : Int) := by omega
      have rc1 : IntKind.i64.wrap ((b : Int) + (i : Int)) = (b : Int) + (i : Int) := by rw [IntKind.wrap_i64]; omega
      obtain ⟨x1, hx1⟩ : ∃ zz, zz = dk[a + i]! := ⟨_, rfl⟩
      obtain ⟨y1, hy1⟩ : ∃ zz, zz = dk[b + i]! := ⟨_, rfl⟩
      have S2 : Aside (SW enc w0 blk off (swp dk (a + i) (b + i)) ((wr.setCell ⟨blk, off + iN1, none⟩ (enc y1)).setCell ⟨blk, off + jN1, none⟩ (enc x1)).drew) := by rw [hiN1, hjN1, hx1, hy1]; exact S1.out.swapped R (a + i) (b + i) (by omega) (by omega)
      have c1a := S1.out.c1 R (by omega) (a + i) (by omega)
      have c1b := S1.out.c1 R (by omega) (b + i) (by omega)
      have f1a := S1.out.f1 R (by omega) (a + i) (by omega)
      have f1b := S1.out.f1 R (by omega) (b + i) (by omega)
      obtain ⟨u1, c1c⟩ := S1.out.c2 R (by omega) (a + i) (b + i) (by omega) (by omega) (enc y1)
      rw [← hjN1, ← hiN1] at c1c
      rw [← hx1, ← hiN1] at c1a
      rw [← hy1, ← hjN1] at c1b
      rw [← hiN1] at f1a
      rw [← hjN1] at f1b
      clear S1 hx1 hy1 hiN1 hjN1
      go_wp2_with fail
      go_big_region
      clear c1a c1b c1c f1a f1b
      generalize ((wr.setCell ⟨blk, off + iN1, none⟩ (enc y1)).setCell ⟨blk, off + jN1, none⟩ (enc x1)).drew = w2 at S2 ⊢
      clear ea1 ec1
      go_wp2
      go_roundg (n - (i + 1))
      case measure => omega
      case rel =>
        refine ⟨i + 1, swp dk (a + i) (b + i), by go_num, by omega, Nat.le_refl _, by rw [size_swp]; exact hds, S2, (fun t => ?_), permIn_trans _ _ _ _ _ HP.out (swp_permIn _ _ _ _ _ (by omega) (by omega) (by omega) (by omega) (by omega))⟩
        rw [swp_get dk (by omega) (by omega), HD.out (a + i), HD.out (b + i), HD.out t]
        exact swrF_succ _ (by omega) t
    · have hltz : ¬ (i : Int) < (n : Int) := by omega
      have hin : i = n := by omega
      subst hin
      go_wp2
      go_end0
      exact ⟨rfl, dk, S1.out, hds, HD.out, HP.out⟩

set_option maxHeartbeats 4000000 in
set_option maxRecDepth 1000000 in
theorem rotateF (g : Nat) (cb : Array Value) (a m b : Nat) (d : Array Nat) (w : World) (R : Row1 enc w0 blk off d0) (hs : d0.size = d.size) (S : SW enc w0 blk off d w) (ham : a < m) (hmb : m < b) (hb : b ≤ d.size) (hsz : d.size < 2305843009213693952) :
    Calls Tryz.prog 114 #[.slice (some ⟨blk, off, none⟩) d.size cap, .int .i64 a, .int .i64 m, .int .i64 b, .func (.func g) #[] cb] w (RotPostF enc w0 blk off a m b d) := by
  have S0 : Aside (SW enc w0 blk off d w) := S
  clear S
  go_enter Tryz.func114, Tryz.ntmps114
  go_wp2
  go_loopg [10, 11] b (fun kx s10 s11 wr => ∃ (i j : Nat) (dk : Array Nat), s10 = .int .i64 i ∧ s11 = .int .i64 j ∧ 0 < i ∧ 0 < j ∧ a + i ≤ m ∧ m + j ≤ b ∧ i + j ≤ kx ∧ dk.size = d.size ∧ Aside (SW enc w0 blk off dk wr) ∧ Hid (∀ t, rotF (fun t => dk[t]!) (m - i) m (m + j) t = rotF (fun t => d[t]!) a m b t) ∧ Hid (PermIn a b d dk))
  case atStart => exact ⟨m - a, b - m, d, by go_num, by go_num, by omega, by omega, by omega, by omega, by omega, rfl, S0, (fun t => by rw [show m - (m - a) = a by omega, show m + (b - m) = b by omega]), permIn_refl _ _ _⟩
  case round =>
    clear S0
    obtain ⟨i, j, dk, rfl, rfl, hi, hj, hai, hjb, hkx, hds, S1, HD, HP⟩ := hrel
    have e1 : (m : Int) - (i : Int) = ((m - i : Nat) : Int) := by omega
    have r1 : IntKind.i64.wrap ((m : Int) - (i : Int)) = (m : Int) - (i : Int) := by rw [IntKind.wrap_i64]; omega
    by_cases hij : i = j
    · subst hij
      go_wp2_with fail
      rw [← hds]
      refine (swapRangeF g cb (m - i) m i dk _ R (by omega) S1.out (by omega) (by omega) (by omega)).mono ?_
      rintro e w1 ⟨rfl, d1, S2, hd1, HD1, HP1⟩
      go_wp2_with fail
      go_end0
      refine ⟨rfl, d1, S2, by rw [hd1]; exact hds, fun t => ?_, permIn_trans _ _ _ _ _ HP.out (permIn_mono _ _ _ _ _ _ (by omega) (by omega) (by omega) HP1)⟩
      rw [HD1, rot_end _ (by omega)]; exact HD.out t
    · by_cases hlt : j < i
      · have hne : ((i : Int) == (j : Int)) = false := by simp; omega
        have hltz : (j : Int) < (i : Int) := by omega
        clear hij
        go_wp2_with fail
        rw [← hds]
        refine (swapRangeF g cb (m - i) m j dk _ R (by omega) S1.out (by omega) (by omega) (by omega)).mono ?_
        rintro e w1 ⟨rfl, d1, S2, hd1, HD1, HP1⟩
        have S2' : Aside (SW enc w0 blk off d1 w1) := S2
        clear S1 S2
        go_wp2_with fail
        go_roundg (i - j + j)
        case measure => omega
        case rel =>
          refine ⟨i - j, j, d1, by go_num, rfl, by omega, hj, by omega, hjb, Nat.le_refl _, by omega, S2', (fun t => ?_), permIn_trans _ _ _ _ _ HP.out (permIn_mono _ _ _ _ _ _ (by omega) (by omega) (by omega) HP1)⟩
          rw [← HD.out t, ← rot_left (fun t => dk[t]!) (m := m) (i := i) (j := j) (by omega) hlt t]
          exact rotF_congr HD1 _ _ _ t
      · have hne : ((i : Int) == (j : Int)) = false := by simp; omega
        have hltz : ¬ (j : Int) < (i : Int) := by omega
        have e2 : (m : Int) + (j : Int) - (i : Int) = ((m + j - i : Nat) : Int) := by omega
        have hgt : i < j := by omega
        clear hij
        go_wp2_with fail
        rw [← hds]
        refine (swapRangeF g cb (m - i) (m + j - i) i dk _ R (by omega) S1.out (by omega) (by omega) (by omega)).mono ?_
        rintro e w1 ⟨rfl, d1, S2, hd1, HD1, HP1⟩
        have S2' : Aside (SW enc w0 blk off d1 w1) := S2
        clear S1 S2
        go_wp2_with fail
        go_roundg (i + (j - i))
        case measure => omega
        case rel =>
          refine ⟨i, j - i, d1, rfl, by go_num, hi, by omega, hai, by omega, Nat.le_refl _, by omega, S2', (fun t => ?_), permIn_trans _ _ _ _ _ HP.out (permIn_mono _ _ _ _ _ _ (by omega) (by omega) (by omega) HP1)⟩
          rw [← HD.out t, ← rot_right (fun t => dk[t]!) (m := m) (i := i) (j := j) (by omega) hgt t]
          exact rotF_congr HD1 _ _ _ t

end
end Go.Proofs.YtoeldcgclaiokaaGreat
