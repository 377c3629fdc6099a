/- Small functions: IsNaN, Inf, the orders of floats. -/
import Derived.Test.YtoeldcgclaiokaaMeanAll
import Derived.Test.YtoeldcgclaiokaaFlAll
namespace Go.Proofs.Ytoeldcgclaiokaa
open Go.Fl Go.Rel Go.RowKit

theorem cn_pinf : cn pinf = pinf := by decide +kernel
theorem cn_ninf : cn ninf = ninf := by decide +kernel

theorem isnan_any (x : Nat) (w : World) : Calls Try.prog 69 #[.float .f64 x] w fun e w' => e = .returned (.bool (isN x)) ∧ w = w' := by
  have hx : (FloatKind.f64.format.order x x != some .eq) = isN x := ne_self x
  go_enter Try.func69, Try.ntmps69
  go_wp2
  go_ret
  exact ⟨rfl, rfl⟩
theorem inf_up (w : World) : Calls Try.prog 70 #[.int .i64 1] w fun e w' => e = .returned (.float .f64 pinf) ∧ w = w' := by
  have hr := frombits_run 9218868437227405312 w
  go_enter Try.func70, Try.ntmps70
  go_wp2_with (simp only [hr])
  go_ret
  exact ⟨rfl, rfl⟩
theorem inf_down (w : World) : Calls Try.prog 70 #[.int .i64 (-1)] w fun e w' => e = .returned (.float .f64 ninf) ∧ w = w' := by
  have hr := frombits_run 18442240474082181120 w
  go_enter Try.func70, Try.ntmps70
  go_wp2_with (simp only [hr])
  go_ret
  exact ⟨rfl, rfl⟩
theorem order_any (x y : Nat) (w : World) : Calls Try.prog 73 #[.float .f64 x, .float .f64 y] w fun e w' => e = .returned (.int .i64 (ordI x y)) ∧ w = w' := by
  cases hx : isN x <;> cases hy : isN y
  case false.false =>
    have gx : (FloatKind.f64.format.order x x != some .eq) = false := by rw [← hx]; exact ne_self x
    have gy : (FloatKind.f64.format.order y y != some .eq) = false := by rw [← hy]; exact ne_self y
    have ho : FloatKind.f64.format.order x y = some (compare (pl x) (pl y)) := ford_pl hx hy
    unfold ordI
    have kc : ∀ z : Int, compare z z = .eq := fun z => Std.ReflCmp.compare_self
    rcases Int.lt_trichotomy (pl x) (pl y) with h | h | h
    · rw [Std.compare_eq_lt.2 h] at ho
      rw [if_pos h]
      clear hx hy h kc
      go_enter Try.func73, Try.ntmps73
      go_wp2
      go_ret
      exact ⟨rfl, rfl⟩
    · rw [h, kc] at ho
      rw [if_neg (by omega), if_neg (by omega)]
      clear hx hy h kc
      go_enter Try.func73, Try.ntmps73
      go_wp2
      go_ret
      exact ⟨rfl, rfl⟩
    · rw [Std.compare_eq_gt.2 h] at ho
      rw [if_neg (by omega), if_pos h]
      clear hx hy h kc
      go_enter Try.func73, Try.ntmps73
      go_wp2
      go_ret
      exact ⟨rfl, rfl⟩
  case false.true =>
    have gx : (FloatKind.f64.format.order x x != some .eq) = false := by rw [← hx]; exact ne_self x
    have gy : (FloatKind.f64.format.order y y != some .eq) = true := by rw [← hy]; exact ne_self y
    have h : ordI x y = 1 := by
      have := pl_notN hx
      have := pl_nan hy
      unfold ordI; rw [if_neg (by omega), if_pos (by omega)]
    rw [h]
    clear hx hy h
    go_enter Try.func73, Try.ntmps73
    go_wp2
    go_ret
    exact ⟨rfl, rfl⟩
  case true.false =>
    have gx : (FloatKind.f64.format.order x x != some .eq) = true := by rw [← hx]; exact ne_self x
    have gy : (FloatKind.f64.format.order y y != some .eq) = false := by rw [← hy]; exact ne_self y
    have h : ordI x y = -1 := by
      have := pl_notN hy
      have := pl_nan hx
      unfold ordI; rw [if_pos (by omega)]
    rw [h]
    clear hx hy h
    go_enter Try.func73, Try.ntmps73
    go_wp2
    go_ret
    exact ⟨rfl, rfl⟩
  case true.true =>
    have gx : (FloatKind.f64.format.order x x != some .eq) = true := by rw [← hx]; exact ne_self x
    have gy : (FloatKind.f64.format.order y y != some .eq) = true := by rw [← hy]; exact ne_self y
    have h : ordI x y = 0 := by
      have := pl_nan hy
      have := pl_nan hx
      unfold ordI; rw [if_neg (by omega), if_neg (by omega)]
    rw [h]
    clear hx hy h
    go_enter Try.func73, Try.ntmps73
    go_wp2
    go_ret
    exact ⟨rfl, rfl⟩

theorem shl1 (x : Nat) : IntKind.u64.wrap ((x : Int) * 2) = 2 * (rung x : Int) := by
  rw [IntKind.wrap_u64]; unfold rung; omega

/-- A word of 64 bits, all NaN as one. -/
def W64 (x : Nat) : Prop := cn x < 18446744073709551616

end Go.Proofs.Ytoeldcgclaiokaa
