/- Small functions: NaN, Inf, bits, comparisons of classes. -/
import Derived.Test.YtmmfjknnbkcniaaGreatStep
import Derived.Test.YtmmfjknnbkcniaaGreatProg
import Derived.KernelRfl
import Derived.Lib.Hide
namespace Go.Proofs.YtmmfjknnbkcniaaGreat
open Go.Fl Go.Rel Go.RowKit

theorem bits_run (b : Nat) (w : World) : (callFunc 21 #[.float .f64 b]).run Tryz.prog w = .ok (.value (.int .u64 b)) w := by kernel_rfl
theorem frombits_run (n : Int) (w : World) : (callFunc 20 #[.int .u64 n]).run Tryz.prog w = .ok (.value (.float .f64 n.toNat)) w := by kernel_rfl

theorem nan_any (w : World) : Calls Tryz.prog 65 #[] w fun e w' => e = .returned (.float .f64 nanc) ∧ w = w' := by
  have hr := frombits_run 9221120237041090561 w
  go_enter Tryz.func65, Tryz.ntmps65
  go_wp2_with (simp only [hr])
  go_ret
  exact ⟨rfl, rfl⟩

theorem refnan_any (w : World) : Calls Tryz.prog 81 #[] w fun e w' => e = .returned (.float .f64 nanc) ∧ w = w' := by
  go_enter Tryz.func81, Tryz.ntmps81
  go_wp2_with (go_at_call 65; refine (nan_any _).mono ?_; rintro e w' ⟨rfl, rfl⟩)
  go_ret
  exact ⟨rfl, rfl⟩

/-- A float of class s, in a world some draws on. -/
def FRet (s : Nat) (w : World) (e : Ending) (w' : World) : Prop := ∃ r n, e = .returned (.float .f64 r) ∧ cn r = s ∧ w' = w.drewN n

theorem cn_one : cn 4607182418800017408 = 4607182418800017408 := by decide +kernel
theorem cn_zero : cn 0 = 0 := by decide +kernel
theorem cn_nanc : cn nanc = nanc := by decide +kernel
def one : Nat := 4607182418800017408

/-- The number at a place (behind the end: 0). -/
def at0 (xs : List Nat) (i : Nat) : Nat := xs.getD i 0

theorem at0_map (f : Nat → Nat) (xs : List Nat) {i : Nat} (h : i < xs.length) : at0 (xs.map f) i = f (at0 xs i) := by
  simp [at0, List.getD, h]

/-- What a slice of floats holds. -/
def Row (w : World) (a : Option Addr) (n : Nat) (xs : List Nat) : Prop :=
  xs.length = n ∧ n ≤ 9223372036854775807 ∧ (0 < n → ∃ b off, a = some ⟨b, off, none⟩ ∧ ∀ i, i < n → w.cell? ⟨b, off + i, none⟩ = some (.float .f64 (at0 xs i)))

/-- A row stays while nothing below is written. -/
theorem Row.below {w w' : World} {a : Option Addr} {n : Nat} {xs : List Nat} (h : Row w a n xs) (hb : Below w.heap.size w w') : Row w' a n xs := by
  obtain ⟨h1, h2, h3⟩ := h
  refine ⟨h1, h2, fun hn => ?_⟩
  obtain ⟨b, off, ha, hc⟩ := h3 hn
  refine ⟨b, off, ha, fun i hi => ?_⟩
  have hlt : b < w.heap.size := World.block_lt_of_cell? w ⟨b, off + i, none⟩ (hc i hi)
  rw [hb.cell (p := ⟨b, off + i, none⟩) hlt]
  exact hc i hi

theorem row_two (w : World) (x y : Nat) : Row (w.alloc (.cells #[.float .f64 x, .float .f64 y] 23)) (some ⟨w.heap.size, 0, none⟩) 2 [x, y] := by
  refine ⟨rfl, by omega, fun _ => ⟨_, _, rfl, fun i hi => ?_⟩⟩
  match i, hi with
  | 0, _ => rw [World.cell?_alloc_at _ _ _ _ rfl]; rfl
  | 1, _ => rw [World.cell?_alloc_at _ _ _ _ rfl]; rfl

theorem eq_of_cn {r c : Nat} (h : cn r = c) (hc : isN c = false) : r = c := by
  have := (cn_eq_iff r c).1 (by rw [h, cn_of_notN hc])
  rcases this with ⟨_, h2⟩ | h2
  · rw [hc] at h2; cases h2
  · exact h2

end Go.Proofs.YtmmfjknnbkcniaaGreat
