/- math.Floor. -/
import Derived.Test.YtmmfjknnbkcniaaGreatFlAll
import Derived.Test.YtmmfjknnbkcniaaGreatStep
import Derived.Test.YtmmfjknnbkcniaaGreatProg
import Derived.KernelRfl
import Derived.Lib.Hide
import Derived.Laws.Externs
namespace Go.Proofs.YtmmfjknnbkcniaaGreat
open Go.Fl Go.Rel Go.RowKit

theorem floor_ext (x : Nat) (w : World) : (callFunc 119 #[.float .f64 x]).run Tryz.prog w = ((Extern.MathFloor.toIntegral "math.archFloor" .down #[.float .f64 x]).run Tryz.prog w).andThen fun v w' => .ok (.value v) w' :=
  run_callFunc_extern Tryz.func119 (by kernel_rfl) rfl (by kernel_rfl) (by kernel_rfl) _ w

theorem floor_def (x : Nat) : Extern.MathFloor.toIntegral "math.archFloor" .down #[.float .f64 x] = (match FloatKind.f64.decode x with
    | .nan s t =>
      if FloatKind.f64.format.quiet t = t then pure (.float .f64 x) else do
      let kept ← choose (.extern "math.Floor,Ceil,Trunc,RoundToEven.signallingNaN kept" 2)
      pure (.float .f64 (if kept == 1 then x else FloatKind.f64.encode (.nan s (FloatKind.f64.format.quiet t))))
    | d => pure (.float .f64 (FloatKind.f64.encode (d.integral .down)))) := rfl

theorem quiet_isN (s : Bool) (t : Nat) (hlt : t < 4503599627370496) : isN (Ieee.double.write (.nan s (Ieee.double.quiet t))) = true := by
  have hq : Ieee.double.quiet t = t ||| 2 ^ 51 := rfl
  have h1 : t ||| 2 ^ 51 < 2 ^ 52 := Nat.or_lt_two_pow (by omega) (by decide)
  have h2 : 2 ^ 51 ≤ t ||| 2 ^ 51 := Nat.right_le_or
  rw [hq]
  generalize t ||| 2 ^ 51 = q at h1 h2
  show isN (Ieee.double.word s (Ieee.double.infRung + q % Ieee.double.binade)) = true
  rw [word_eq, infRung_eq, binade_eq, Nat.mod_eq_of_lt (by omega)]
  unfold isN Ieee.Format.read
  dsimp only
  rw [sw_eq, binade_eq, infRung_eq]
  have hm : (if s = true then 9223372036854775808 + (9218868437227405312 + q) else 9218868437227405312 + q) % 9223372036854775808 = 9218868437227405312 + q := by
    cases s <;> simp <;> omega
  rw [hm, if_neg (by omega), if_neg (by omega), if_neg (by omega)]
  rfl

theorem read_nan_frac {x : Nat} {s : Bool} {t : Nat} (h : Ieee.double.read x = .nan s t) : 0 < t ∧ t < 4503599627370496 := by
  unfold Ieee.Format.read at h
  dsimp only at h
  rw [sw_eq, binade_eq, infRung_eq] at h
  have := Nat.mod_lt x (show 0 < 9223372036854775808 by omega)
  split at h
  · cases h
  · split at h
    · cases h
    · split at h
      · cases h
      · injection h with h1 h2
        omega

theorem floor_run (x : Nat) (w : World) : ∃ r n, (callFunc 119 #[.float .f64 x]).run Tryz.prog w = .ok (.value (.float .f64 r)) (w.drewN n) ∧ cn r = ffloor (cn x) := by
  rw [floor_ext, floor_def, ffloor_cn]
  have hdec : FloatKind.f64.decode x = Ieee.double.read x := rfl
  cases hr : Ieee.double.read x with
  | nan s t =>
    have hN : isN x = true := by unfold isN; rw [hr]; rfl
    rw [hdec, hr]
    dsimp only
    have hff : ffloor x = nanc := by unfold ffloor; rw [hN]; rfl
    by_cases hq : FloatKind.f64.format.quiet t = t
    · refine ⟨x, 0, ?_, ?_⟩
      · rw [if_pos hq]; simp [Result.andThen, World.drewN]
      · rw [cn_of_N hN, hff]
    · refine ⟨if (Question.cut (.extern "math.Floor,Ceil,Trunc,RoundToEven.signallingNaN kept" 2) (w.tape w.drawn (.extern "math.Floor,Ceil,Trunc,RoundToEven.signallingNaN kept" 2))) == 1 then x else FloatKind.f64.encode (.nan s (FloatKind.f64.format.quiet t)), 1, ?_, ?_⟩
      · have hf : Question.forced (.extern "math.Floor,Ceil,Trunc,RoundToEven.signallingNaN kept" 2) = false := rfl
        rw [if_neg hq]
        simp [choose, Sem.run, Result.andThen, Question.forced, World.drewN]
      · rw [hff]
        refine cn_of_N ?_
        split
        · exact hN
        · exact quiet_isN s t (read_nan_frac hr).2
  | number s m p =>
    have hN : isN x = false := by unfold isN; rw [hr]; rfl
    refine ⟨ffloor x, 0, ?_, ?_⟩
    · rw [hdec, hr]; unfold ffloor; rw [hN, hr]; simp [Result.andThen, World.drewN]; rfl
    · unfold ffloor; rw [hN, hr, if_neg (by simp)]; exact cn_of_notN (write_not_nan _ rfl)
  | infinity s =>
    have hN : isN x = false := by unfold isN; rw [hr]; rfl
    refine ⟨ffloor x, 0, ?_, ?_⟩
    · rw [hdec, hr]; unfold ffloor; rw [hN, hr]; simp [Result.andThen, World.drewN]; rfl
    · unfold ffloor; rw [hN, hr, if_neg (by simp)]; exact cn_of_notN (write_not_nan _ rfl)

/-- A float of class s, in a world some draws on. -/
def FRetF (s : Nat) (w : World) (e : Ending) (w' : World) : Prop := ∃ r n, e = .returned (.float .f64 r) ∧ cn r = s ∧ w' = w.drewN n

set_option maxRecDepth 100000 in
theorem floor_any (x : Nat) (w : World) : Calls Tryz.prog 96 #[.float .f64 x] w (FRetF (ffloor (cn x)) w) := by
  obtain ⟨r, n, hr, hc⟩ := floor_run x w
  have Hc := Lib.hid hc
  clear hc
  go_enter Tryz.func96, Tryz.ntmps96
  go_wp2_with (simp only [hr])
  go_ret
  exact ⟨r, n, rfl, Hc.out, rfl⟩

end Go.Proofs.YtmmfjknnbkcniaaGreat
