/- weirlaw06.CalcSamples returns true whatever comes in. -/
import Derived.Test.YtllphokepjekpaaLineB
import Derived.Test.YtllphokepjekpaaLineD
import Derived.Test.YtllphokepjekpaaBeat
namespace Go.Proofs.Ytllphokepjekpaa
open Go.Fl Go.Rel Go.RowKit

def ssA : List Smp := [⟨0, 0, false⟩, ⟨1000, 4607182418800017408, false⟩]
def ssB : List Smp := [⟨5, 4613937818241073152, false⟩]
theorem line_closed : lineS (tcs 0 ssA) (vcs ssA) = (4607182418800017408, 0) := by decide +kernel
theorem beat_closed : beatS (vcs ssB) (eigs ssB 8) 8 = 4613937818241073152 := by decide +kernel

theorem srow_A (w : World) : SRow (w.alloc (.cells #[.int .i64 0, .float .f64 0, .bool false, .int .i64 1000, .float .f64 4607182418800017408, .bool false] 35)) (some ⟨w.heap.size, 0, none⟩) 2 ssA := by
  refine ⟨rfl, by omega, fun i => ?_, fun _ => ⟨_, _, rfl, fun i hi => ?_⟩⟩
  · match i with
    | 0 => exact ⟨by decide, by decide⟩
    | 1 => exact ⟨by decide, by decide⟩
    | i + 2 => exact ⟨by simp [tS, sAt, ssA], by simp [tS, sAt, ssA]⟩
  · match i, hi with
    | 0, _ => refine ⟨?_, ?_, ?_⟩ <;> (rw [World.cell?_alloc_at _ _ _ _ rfl]; rfl)
    | 1, _ => refine ⟨?_, ?_, ?_⟩ <;> (rw [World.cell?_alloc_at _ _ _ _ rfl]; rfl)

theorem srow_B (w : World) : SRow (w.alloc (.cells #[.int .i64 5, .float .f64 4613937818241073152, .bool false] 35)) (some ⟨w.heap.size, 0, none⟩) 1 ssB := by
  refine ⟨rfl, by omega, fun i => ?_, fun _ => ⟨_, _, rfl, fun i hi => ?_⟩⟩
  · match i with
    | 0 => exact ⟨by decide, by decide⟩
    | i + 1 => exact ⟨by simp [tS, sAt, ssB], by simp [tS, sAt, ssB]⟩
  · match i, hi with
    | 0, _ => refine ⟨?_, ?_, ?_⟩ <;> (rw [World.cell?_alloc_at _ _ _ _ rfl]; rfl)

set_option maxHeartbeats 4000000 in
set_option maxRecDepth 100000 in
theorem law_samples (a : Option Addr) (n cap : Nat) (ss : List Smp) (z p : Int) (w : World) (hr : SRow w a n ss) (hreach : n < 17592186044416) :
    Calls Try.prog 6 #[.slice a n cap, .int .i64 z, .int .i64 p] w fun e w' => e = .returned (.bool true) ∧ Below w.heap.size w w' := by
  have hne : (FloatKind.f64.format.order 4607182418800017408 4607182418800017408 != some .eq) = false := by decide +kernel
  have hne2 : (FloatKind.f64.format.order 4613937818241073152 4613937818241073152 != some .eq) = false := by decide +kernel
  go_enter Try.func6, Try.ntmps6
  go_wp2_with fail
  refine (line_any _ 2 2 ssA _ _ (srow_A _)).mono ?_
  rintro e w1 ⟨r, q, rfl, hrr, _, b1⟩
  rw [line_closed] at hrr
  have := eq_of_cn hrr (by decide +kernel)
  subst this
  clear hrr
  have c1 : Below w.heap.size w w1 := ((Below.refl _ _).alloc (Nat.le_refl _) _).trans (b1.mono (by simp))
  go_wp2_with fail
  refine (beat_any _ 1 1 ssB _ _ (srow_B _)).mono ?_
  rintro e w2 ⟨r2, rfl, h2, b2⟩
  rw [beat_closed] at h2
  have := eq_of_cn h2 (by decide +kernel)
  subst this
  clear h2
  have c2 : Below w.heap.size w w2 := (c1.alloc c1.size _).trans (b2.mono (by have := c1.size; simp; omega))
  go_wp2_with fail
  refine (refline_any _ _ _ ss _ _ (hr.below c2) hreach).mono ?_
  rintro e w3 ⟨x, y, rfl, hx, hy, b3⟩
  have HX := Lib.hid hx
  have HY := Lib.hid hy
  clear hx hy
  have c3 := c2.trans (b3.mono c2.size)
  go_wp2_with fail
  refine (refturn_any _ _ _ ss _ _ (hr.below c3)).mono ?_
  rintro e w4 ⟨re, im, rfl, hre, him, b4⟩
  have HRE := Lib.hid hre
  have HIM := Lib.hid him
  clear hre him
  have c4 := c3.trans (b4.mono c3.size)
  go_wp2_with fail
  refine (refbeat_any _ _ _ ss _ _ (hr.below c4)).mono ?_
  rintro e w5 ⟨bt, rfl, hbt, b5⟩
  have HBT := Lib.hid hbt
  clear hbt
  have c5 := c4.trans (b5.mono c4.size)
  go_wp2_with fail
  refine (line_any _ _ _ ss _ _ (hr.below c5)).mono ?_
  rintro e w6 ⟨x', y', rfl, hx', hy', b6⟩
  have hbx : (cn x' == cn x) = true := by rw [hx', HX.out]; simp
  have hby : (cn y' == cn y) = true := by rw [hy', HY.out]; simp
  clear hx' hy'
  have c6 := c5.trans (b6.mono c5.size)
  go_wp2_with fail
  refine (turn_any _ _ _ ss _ _ (hr.below c6)).mono ?_
  rintro e w7 ⟨re', im', rfl, hre', him', b7⟩
  have hbr : (cn re' == cn re) = true := by rw [hre', HRE.out]; simp
  have hbi : (cn im' == cn im) = true := by rw [him', HIM.out]; simp
  clear hre' him'
  have c7 := c6.trans (b7.mono c6.size)
  go_wp2_with (first
    | (go_at_call 17; refine (alike_any _ _ _).mono ?_; rintro e w' ⟨rfl, rfl⟩; rw [hbx])
    | (go_at_call 17; refine (alike_any _ _ _).mono ?_; rintro e w' ⟨rfl, rfl⟩; rw [hby])
    | (go_at_call 17; refine (alike_any _ _ _).mono ?_; rintro e w' ⟨rfl, rfl⟩; rw [hbr])
    | (go_at_call 17; refine (alike_any _ _ _).mono ?_; rintro e w' ⟨rfl, rfl⟩; rw [hbi]))
  refine (beat_any _ _ _ ss _ _ (hr.below c7)).mono ?_
  rintro e w8 ⟨bt', rfl, hbt', b8⟩
  have hbb : (cn bt' == cn bt) = true := by rw [hbt', HBT.out]; simp
  clear hbt'
  have c8 := c7.trans (b8.mono c7.size)
  go_wp2_with (go_at_call 17; refine (alike_any _ _ _).mono ?_; rintro e w' ⟨rfl, rfl⟩; rw [hbb])
  go_ret
  exact ⟨rfl, c8⟩

end Go.Proofs.Ytllphokepjekpaa
