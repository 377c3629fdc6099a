/- OverNames: the walk. weirlaw20.numbers: as many numbers as a name asks for. -/
import Derived.Test.YtoeldcgclaiokaaGreatAliveB
import Derived.Deep.RegionHeld3
namespace Go.Proofs.YtoeldcgclaiokaaGreat
open Go.Fl Go.Rel Go.RowKit
set_option linter.unusedVariables false
set_option linter.unusedSimpArgs false

def ssN : List Smp := [⟨15000, 4607182418800017408, false⟩, ⟨30000, 4613937818241073152, false⟩, ⟨45000, 4611686018427387904, false⟩, ⟨60000, 4617315517961601024, false⟩]
def zs (k : Nat) : List Nat := List.replicate k 0
theorem zs_cn (k : Nat) : (zs k).map cn = zs k := by simp [zs, cn_zero]

theorem names_none (m : Nm) {k : Nat} (h : ¬ k = m.nums) (qs : List Nat) : callO m ssN 4 0 60000 60000 k qs = none := by
  unfold callO; rw [if_neg (fun hh => h hh.1)]
theorem names_some (m : Nm) (qs : List Nat) : ∃ c, callO m ssN 4 0 60000 60000 m.nums qs = some c := by
  unfold callO
  rw [if_pos ⟨rfl, by cases m <;> decide +kernel, by decide +kernel⟩]
  cases m <;> exact ⟨_, rfl⟩

theorem str_quantile (m : Nm) : (m.str.toList == [113, 117, 97, 110, 116, 105, 108, 101, 95, 111, 118, 101, 114, 95, 116, 105, 109, 101]) = decide (m = .quantile) := by cases m <;> decide +kernel
theorem str_predict (m : Nm) : (m.str.toList == [112, 114, 101, 100, 105, 99, 116, 95, 108, 105, 110, 101, 97, 114]) = decide (m = .predict) := by cases m <;> decide +kernel
theorem str_beat (m : Nm) : (m.str.toList == [98, 101, 97, 116, 95, 111, 118, 101, 114, 95, 116, 105, 109, 101]) = decide (m = .beat) := by cases m <;> decide +kernel
theorem str_smoothing (m : Nm) : (m.str.toList == [100, 111, 117, 98, 108, 101, 95, 101, 120, 112, 111, 110, 101, 110, 116, 105, 97, 108, 95, 115, 109, 111, 111, 116, 104, 105, 110, 103]) = decide (m = .smoothing) := by cases m <;> decide +kernel

theorem nums_none {m : Nm} (h1 : m ≠ .quantile) (h2 : m ≠ .predict) (h3 : m ≠ .beat) (h4 : m ≠ .smoothing) : m.nums = 0 := by cases m <;> first | rfl | contradiction

/-- 23 cells with the names. -/
def NamesAt (B : Nat) (W : World) : Prop := ∀ i, i < 23 → W.cell? ⟨B, i, none⟩ = some (.string (nmAt i).str)
theorem NamesAt.below {B : Nat} {W W' : World} (h : NamesAt B W) (hb : Below W.heap.size W W') : NamesAt B W' := fun i hi => cell_stay (h i hi) hb

def ORel (n : Nat) (W : World) (vi : Value) (wr : World) : Prop := ∃ i : Nat, i ≤ n ∧ vi = .int .i64 (i : Int) ∧ Below W.heap.size W wr
def manyN (m : Nm) (k : Nat) : Nat := if k ≤ m.nums then 0 else m.nums + 1
def IRel (m : Nm) (W : World) (vm vk : Value) (wr : World) : Prop := ∃ k : Nat, k ≤ 4 ∧ vk = .int .i64 (k : Int) ∧ vm = .int .i64 (manyN m k : Nat) ∧ Below W.heap.size W wr

def NoVal (w : World) (e : Ending) (w' : World) : Prop := e = .returned (.tuple #[.float .f64 0, .bool false]) ∧ Below w.heap.size w w'

theorem run_make_k (k : Nat) (hk : k < 17592186044416) (w : World) : (Instr.makeSlice 25 (.int .i64 (k : Int)) (.int .i64 (k : Int))).run Tryz.prog w = .ok (.slice (some ⟨w.heap.size, 0, none⟩) k k) (w.alloc (.cells (fillC (fun _ => 0) k 0) 27)) := by
  obtain ⟨i0, hi, hz0, hz1, hz2⟩ := info_parts info_f
  have hr := run_make (P := Tryz.prog) w 25 27 i0 _ Tryz.underlying25 hi hz0 .i64 .i64 (k : Int) (k : Int) (by omega) (by omega) (by rw [hz2]; omega) (by omega)
  simp only [Int.toNat_natCast, hz1, fillC_made (fun _ => 0) k] at hr
  exact hr
theorem row_fill (k : Nat) (hk : k < 4) (W W' : World) {g : Nat} (h : Bk.Is W g (fillC (fun _ => 0) k 0) 27) (hb : Below W.heap.size W W') : Row W' (some ⟨g, 0, none⟩) k (zs k) := by
  have h2 := h.below hb h.lt
  exact ⟨by simp [zs], by omega, fun _ => ⟨_, _, rfl, fun i hi => by rw [Nat.zero_add, h2.cell, fillC_get _ hi]; simp [zs, at0, List.getD, hi]⟩⟩
theorem rows_a {W : World} {o : Obj} {a : Option Addr} {n : Nat} {ss : List Smp} (h : SRow W a n ss) : SRow (W.alloc o) a n ss := h.below ((Below.refl _ _).alloc (Nat.le_refl _) _)

theorem keepA {z w w' : World} {q : Addr} {v : Value} (h : w.cell? q = some v ∧ Below z.heap.size z w) (hb : Below w.heap.size w w') : w'.cell? q = some v ∧ Below z.heap.size z w' := ⟨cell_stay h.1 hb, h.2.trans (hb.mono h.2.size)⟩
theorem keepB {z w : World} {q : Addr} {v : Value} (h : w.cell? q = some v ∧ Below z.heap.size z w) (o : Obj) : (w.alloc o).cell? q = some v ∧ Below z.heap.size z (w.alloc o) := ⟨cell_old h.1 o, h.2.alloc h.2.size o⟩
theorem keepD {z w : World} {q : Addr} {v : Value} (h : w.cell? q = some v ∧ Below z.heap.size z w) : w.drew.cell? q = some v ∧ Below z.heap.size z w.drew := ⟨h.1, h.2.drewN' 1⟩

end Go.Proofs.YtoeldcgclaiokaaGreat

namespace Go.Proofs.YtoeldcgclaiokaaGreat
open Go.Fl Go.Rel Go.RowKit
set_option linter.unusedVariables false
set_option linter.unusedSimpArgs false

/-- The numbers that a name asks for. -/
def qsOf (m : Nm) (a b : Nat) : List Nat := match m with
  | .quantile | .predict | .beat => [a]
  | .smoothing => [a, b]
  | _ => []
def NumsRet (m : Nm) (a b : Nat) (w : World) (e : Ending) (w' : World) : Prop :=
  ∃ aa, e = .returned (.slice aa m.nums m.nums) ∧ Row w' aa m.nums (qsOf m a b) ∧ Below w.heap.size w w'

theorem qs_none {m : Nm} (h1 : m ≠ .quantile) (h2 : m ≠ .predict) (h3 : m ≠ .beat) (h4 : m ≠ .smoothing) (a b : Nat) : qsOf m a b = [] := by cases m <;> first | rfl | contradiction

theorem row_made1 (w : World) (a : Nat) : Row (w.alloc (.cells #[.float .f64 a] 27)) (some ⟨w.heap.size, 0, none⟩) 1 [a] := by
  refine ⟨rfl, by omega, fun _ => ⟨_, _, rfl, fun i hi => ?_⟩⟩
  match i, hi with
  | 0, _ => rw [World.cell?_alloc_at _ _ _ _ rfl]; rfl

set_option maxHeartbeats 4000000 in
set_option maxRecDepth 100000 in
theorem numbers_any (m : Nm) (a b : Nat) (w : World) : Calls Tryz.prog 11 #[.string m.str, .float .f64 a, .float .f64 b] w (NumsRet m a b w) := by
  have q1 := str_quantile m
  have q2 := str_predict m
  have q3 := str_beat m
  have q4 := str_smoothing m
  have kind : m = .quantile ∨ m = .predict ∨ m = .beat ∨ m = .smoothing ∨ (m ≠ .quantile ∧ m ≠ .predict ∧ m ≠ .beat ∧ m ≠ .smoothing) := by cases m <;> decide
  rcases kind with hm | hm | hm | hm | ⟨h1, h2, h3, h4⟩
  · have HN : Hid (m.nums = 1 ∧ qsOf m a b = [a]) := by subst hm; exact ⟨rfl, rfl⟩
    rw [decide_eq_true hm] at q1
    clear hm q2 q3 q4
    go_enter Tryz.func11, Tryz.ntmps11
    go_wp2_with fail
    go_ret
    refine ⟨_, by rw [HN.out.1]; rfl, ?_, (Below.refl _ _).alloc (Nat.le_refl _) _⟩
    rw [HN.out.1, HN.out.2]
    exact row_made1 w a
  · have HN : Hid (m.nums = 1 ∧ qsOf m a b = [a]) := by subst hm; exact ⟨rfl, rfl⟩
    rw [decide_eq_true hm] at q2
    rw [decide_eq_false (by subst hm; decide)] at q1
    clear hm q3 q4
    go_enter Tryz.func11, Tryz.ntmps11
    go_wp2_with fail
    go_ret
    refine ⟨_, by rw [HN.out.1]; rfl, ?_, (Below.refl _ _).alloc (Nat.le_refl _) _⟩
    rw [HN.out.1, HN.out.2]
    exact row_made1 w a
  · have HN : Hid (m.nums = 1 ∧ qsOf m a b = [a]) := by subst hm; exact ⟨rfl, rfl⟩
    rw [decide_eq_true hm] at q3
    rw [decide_eq_false (by subst hm; decide)] at q1
    rw [decide_eq_false (by subst hm; decide)] at q2
    clear hm q4
    go_enter Tryz.func11, Tryz.ntmps11
    go_wp2_with fail
    go_ret
    refine ⟨_, by rw [HN.out.1]; rfl, ?_, (Below.refl _ _).alloc (Nat.le_refl _) _⟩
    rw [HN.out.1, HN.out.2]
    exact row_made1 w a
  · have HN : Hid (m.nums = 2 ∧ qsOf m a b = [a, b]) := by subst hm; exact ⟨rfl, rfl⟩
    rw [decide_eq_true hm] at q4
    rw [decide_eq_false (by subst hm; decide)] at q1
    rw [decide_eq_false (by subst hm; decide)] at q2
    rw [decide_eq_false (by subst hm; decide)] at q3
    clear hm
    go_enter Tryz.func11, Tryz.ntmps11
    go_wp2_with fail
    go_ret
    refine ⟨_, by rw [HN.out.1]; rfl, ?_, (Below.refl _ _).alloc (Nat.le_refl _) _⟩
    rw [HN.out.1, HN.out.2]
    exact row_two w a b
  · have HN : Hid (m.nums = 0 ∧ qsOf m a b = []) := ⟨nums_none h1 h2 h3 h4, qs_none h1 h2 h3 h4 a b⟩
    rw [decide_eq_false h1] at q1
    rw [decide_eq_false h2] at q2
    rw [decide_eq_false h3] at q3
    rw [decide_eq_false h4] at q4
    clear h1 h2 h3 h4
    go_enter Tryz.func11, Tryz.ntmps11
    go_wp2_with fail
    go_ret
    refine ⟨none, by rw [HN.out.1]; rfl, ?_, Below.refl _ _⟩
    rw [HN.out.1, HN.out.2]
    exact row_none w
end Go.Proofs.YtoeldcgclaiokaaGreat
