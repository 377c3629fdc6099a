/- over.Extrapolate, whatever comes in. -/
import Derived.Test.YtoeldcgclaiokaaGreatExtA
namespace Go.Proofs.YtoeldcgclaiokaaGreat
open Go.Fl Go.Rel Go.RowKit

set_option maxHeartbeats 4000000 in
set_option maxRecDepth 100000 in
theorem ext_any (a : Option Addr) (n cap : Nat) (ss : List Smp) (F T N : Int) (counter perSec : Bool) (w : World) (hr : SRow w a n ss) :
    Calls Tryz.prog 13 #[winV a n cap F T N, .bool counter, .bool perSec] w (OptRet (extO ss n F T N counter perSec) w) := by
  have hn := hr.2.1
  by_cases h2 : n < 2
  · have HO : Hid (extO ss n F T N counter perSec = none) := by show _ = _; unfold extO; rw [if_pos (.inl h2)]
    have dd : decide ((n : Int) < 2) = true := decide_eq_true (by omega)
    clear hr
    go_enter Tryz.func13, Tryz.ntmps13
    go_wp2_with fail
    go_ret2
    rw [HO.out]
    exact ⟨rfl, (Below.refl _ _).alloc (Nat.le_refl _) _⟩
  · cases hs : sndB F T N ss n with
    | false =>
      have dd : decide ((n : Int) < 2) = false := decide_eq_false (by omega)
      have HS : Hid (∀ w1, Below w.heap.size w w1 → Calls Tryz.prog 23 #[winV a n cap F T N] w1 (BoolB (sndB F T N ss n) w1)) := fun w1 hb => sound_any a n cap ss F T N w1 (hr.below hb)
      have HB0 : Hid (Below w.heap.size w (w.alloc (.cells #[.slice a n cap, .int .i64 F, .int .i64 T, .int .i64 N] 24))) := (Below.refl _ _).alloc (Nat.le_refl _) _
      have HO : Hid (extO ss n F T N counter perSec = none) := by show _ = _; unfold extO; rw [if_pos (.inr hs)]
      rw [hs] at HS
      clear hr hs h2
      go_enter Tryz.func13, Tryz.ntmps13
      go_wp2_with (go_at_call 23; ((with_reducible refine (HS.out _ HB0.out).mono ?_); rintro e w1 ⟨rfl, b1⟩))
      go_ret2
      rw [HO.out]
      exact ⟨rfl, HB0.out.trans (b1.mono HB0.out.size)⟩
    | true =>
      obtain ⟨m, rfl⟩ : ∃ m, n = m + 2 := ⟨n - 2, by omega⟩
      have := ext_main m cap a ss F T N counter perSec w hr hs
      rw [show extO ss (m + 2) F T N counter perSec = some (extC (vcs ss) (tS ss) m F T counter perSec) by unfold extO; rw [if_neg (by rw [hs]; simp)]; rfl]
      exact this
end Go.Proofs.YtoeldcgclaiokaaGreat
