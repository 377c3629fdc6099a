/- weirlaw20.numbers: as many numbers as a name asks for. -/
import Derived.Test.YtoeldcgclaiokaaNamesW
namespace Go.Proofs.Ytoeldcgclaiokaa
open Go.Fl Go.Rel Go.RowKit
set_option linter.unusedVariables false
set_option linter.unusedSimpArgs false

/-- The numbers that a name asks for. -/
def qsOf (m : Nm) (a b : Nat) : List Nat := match m with
  | .quantile | .predict | .beat => [a]
  | .smoothing => [a, b]
  | _ => []
def NumsRet (m : Nm) (a b : Nat) (w : World) (e : Ending) (w' : World) : Prop :=
  ∃ aa, e = .returned (.slice aa m.nums m.nums) ∧ Row w' aa m.nums (qsOf m a b) ∧ Below w.heap.size w w'

theorem qs_none {m : Nm} (h1 : m ≠ .quantile) (h2 : m ≠ .predict) (h3 : m ≠ .beat) (h4 : m ≠ .smoothing) (a b : Nat) : qsOf m a b = [] := by cases m <;> first | rfl | contradiction

theorem row_made1 (w : World) (a : Nat) : Row (w.alloc (.cells #[.float .f64 a] 25)) (some ⟨w.heap.size, 0, none⟩) 1 [a] := by
  refine ⟨rfl, by omega, fun _ => ⟨_, _, rfl, fun i hi => ?_⟩⟩
  match i, hi with
  | 0, _ => rw [World.cell?_alloc_at _ _ _ _ rfl]; rfl

set_option maxHeartbeats 4000000 in
set_option maxRecDepth 100000 in
theorem numbers_any (m : Nm) (a b : Nat) (w : World) : Calls Try.prog 22 #[.string m.str, .float .f64 a, .float .f64 b] w (NumsRet m a b w) := by
  have q1 := str_quantile m
  have q2 := str_predict m
  have q3 := str_beat m
  have q4 := str_smoothing m
  have kind : m = .quantile ∨ m = .predict ∨ m = .beat ∨ m = .smoothing ∨ (m ≠ .quantile ∧ m ≠ .predict ∧ m ≠ .beat ∧ m ≠ .smoothing) := by cases m <;> decide
  rcases kind with hm | hm | hm | hm | ⟨h1, h2, h3, h4⟩
  · have HN : Hid (m.nums = 1 ∧ qsOf m a b = [a]) := by subst hm; exact ⟨rfl, rfl⟩
    rw [decide_eq_true hm] at q1
    clear hm q2 q3 q4
    go_enter Try.func22, Try.ntmps22
    go_wp2_with fail
    go_ret
    refine ⟨_, by rw [HN.out.1]; rfl, ?_, (Below.refl _ _).alloc (Nat.le_refl _) _⟩
    rw [HN.out.1, HN.out.2]
    exact row_made1 w a
  · have HN : Hid (m.nums = 1 ∧ qsOf m a b = [a]) := by subst hm; exact ⟨rfl, rfl⟩
    rw [decide_eq_true hm] at q2
    rw [decide_eq_false (by subst hm; decide)] at q1
    clear hm q3 q4
    go_enter Try.func22, Try.ntmps22
    go_wp2_with fail
    go_ret
    refine ⟨_, by rw [HN.out.1]; rfl, ?_, (Below.refl _ _).alloc (Nat.le_refl _) _⟩
    rw [HN.out.1, HN.out.2]
    exact row_made1 w a
  · have HN : Hid (m.nums = 1 ∧ qsOf m a b = [a]) := by subst hm; exact ⟨rfl, rfl⟩
    rw [decide_eq_true hm] at q3
    rw [decide_eq_false (by subst hm; decide)] at q1
    rw [decide_eq_false (by subst hm; decide)] at q2
    clear hm q4
    go_enter Try.func22, Try.ntmps22
    go_wp2_with fail
    go_ret
    refine ⟨_, by rw [HN.out.1]; rfl, ?_, (Below.refl _ _).alloc (Nat.le_refl _) _⟩
    rw [HN.out.1, HN.out.2]
    exact row_made1 w a
  · have HN : Hid (m.nums = 2 ∧ qsOf m a b = [a, b]) := by subst hm; exact ⟨rfl, rfl⟩
    rw [decide_eq_true hm] at q4
    rw [decide_eq_false (by subst hm; decide)] at q1
    rw [decide_eq_false (by subst hm; decide)] at q2
    rw [decide_eq_false (by subst hm; decide)] at q3
    clear hm
    go_enter Try.func22, Try.ntmps22
    go_wp2_with fail
    go_ret
    refine ⟨_, by rw [HN.out.1]; rfl, ?_, (Below.refl _ _).alloc (Nat.le_refl _) _⟩
    rw [HN.out.1, HN.out.2]
    exact row_two w a b
  · have HN : Hid (m.nums = 0 ∧ qsOf m a b = []) := ⟨nums_none h1 h2 h3 h4, qs_none h1 h2 h3 h4 a b⟩
    rw [decide_eq_false h1] at q1
    rw [decide_eq_false h2] at q2
    rw [decide_eq_false h3] at q3
    rw [decide_eq_false h4] at q4
    clear h1 h2 h3 h4
    go_enter Try.func22, Try.ntmps22
    go_wp2_with fail
    go_ret
    refine ⟨none, by rw [HN.out.1]; rfl, ?_, Below.refl _ _⟩
    rw [HN.out.1, HN.out.2]
    exact row_none w
end Go.Proofs.Ytoeldcgclaiokaa
