/- Small functions: IsNaN, Inf, the orders of floats. -/
import Derived.Test.YtllphokepjekpaaMeanAll
import Derived.Test.YtllphokepjekpaaFlAll
namespace Go.Proofs.Ytllphokepjekpaa
open Go.Fl Go.Rel Go.RowKit

theorem cn_pinf : cn pinf = pinf := by decide +kernel
theorem cn_ninf : cn ninf = ninf := by decide +kernel

theorem isnan_any (x : Nat) (w : World) : Calls Try.prog 66 #[.float .f64 x] w fun e w' => e = .returned (.bool (isN x)) ∧ w = w' := by
  have hx : (FloatKind.f64.format.order x x != some .eq) = isN x := ne_self x
  go_enter Try.func66, Try.ntmps66
  go_wp2
  go_ret
  exact ⟨rfl, rfl⟩
theorem bad_any (x : Nat) (w : World) : Calls Try.prog 77 #[.float .f64 x] w fun e w' => e = .returned (.bool (isN x)) ∧ w = w' := by
  have hx : (FloatKind.f64.format.order x x != some .eq) = isN x := ne_self x
  go_enter Try.func77, Try.ntmps77
  go_wp2
  go_ret
  exact ⟨rfl, rfl⟩
theorem inf_up (w : World) : Calls Try.prog 42 #[.int .i64 1] w fun e w' => e = .returned (.float .f64 pinf) ∧ w = w' := by
  have hr := frombits_run 9218868437227405312 w
  go_enter Try.func42, Try.ntmps42
  go_wp2_with (simp only [hr])
  go_ret
  exact ⟨rfl, rfl⟩
theorem inf_down (w : World) : Calls Try.prog 42 #[.int .i64 (-1)] w fun e w' => e = .returned (.float .f64 ninf) ∧ w = w' := by
  have hr := frombits_run 18442240474082181120 w
  go_enter Try.func42, Try.ntmps42
  go_wp2_with (simp only [hr])
  go_ret
  exact ⟨rfl, rfl⟩
theorem rinf_up (w : World) : Calls Try.prog 79 #[.int .i64 1] w fun e w' => e = .returned (.float .f64 pinf) ∧ w = w' := by
  go_enter Try.func79, Try.ntmps79
  go_wp2_with (go_at_call 42; refine (inf_up _).mono ?_; rintro e w' ⟨rfl, rfl⟩)
  go_ret
  exact ⟨rfl, rfl⟩
theorem rinf_down (w : World) : Calls Try.prog 79 #[.int .i64 (-1)] w fun e w' => e = .returned (.float .f64 ninf) ∧ w = w' := by
  go_enter Try.func79, Try.ntmps79
  go_wp2_with (go_at_call 42; refine (inf_down _).mono ?_; rintro e w' ⟨rfl, rfl⟩)
  go_ret
  exact ⟨rfl, rfl⟩

theorem order_any (x y : Nat) (w : World) : Calls Try.prog 93 #[.float .f64 x, .float .f64 y] w fun e w' => e = .returned (.int .i64 (ordI x y)) ∧ w = w' := by
  cases hx : isN x <;> cases hy : isN y
  case false.false =>
    have gx : (FloatKind.f64.format.order x x != some .eq) = false := by rw [← hx]; exact ne_self x
    have gy : (FloatKind.f64.format.order y y != some .eq) = false := by rw [← hy]; exact ne_self y
    have ho : FloatKind.f64.format.order x y = some (compare (pl x) (pl y)) := ford_pl hx hy
    unfold ordI
    have kc : ∀ z : Int, compare z z = .eq := fun z => Std.ReflCmp.compare_self
    rcases Int.lt_trichotomy (pl x) (pl y) with h | h | h
    · rw [Std.compare_eq_lt.2 h] at ho
      rw [if_pos h]
      clear hx hy h kc
      go_enter Try.func93, Try.ntmps93
      go_wp2
      go_ret
      exact ⟨rfl, rfl⟩
    · rw [h, kc] at ho
      rw [if_neg (by omega), if_neg (by omega)]
      clear hx hy h kc
      go_enter Try.func93, Try.ntmps93
      go_wp2
      go_ret
      exact ⟨rfl, rfl⟩
    · rw [Std.compare_eq_gt.2 h] at ho
      rw [if_neg (by omega), if_pos h]
      clear hx hy h kc
      go_enter Try.func93, Try.ntmps93
      go_wp2
      go_ret
      exact ⟨rfl, rfl⟩
  case false.true =>
    have gx : (FloatKind.f64.format.order x x != some .eq) = false := by rw [← hx]; exact ne_self x
    have gy : (FloatKind.f64.format.order y y != some .eq) = true := by rw [← hy]; exact ne_self y
    have h : ordI x y = 1 := by
      have := pl_notN hx
      have := pl_nan hy
      unfold ordI; rw [if_neg (by omega), if_pos (by omega)]
    rw [h]
    clear hx hy h
    go_enter Try.func93, Try.ntmps93
    go_wp2
    go_ret
    exact ⟨rfl, rfl⟩
  case true.false =>
    have gx : (FloatKind.f64.format.order x x != some .eq) = true := by rw [← hx]; exact ne_self x
    have gy : (FloatKind.f64.format.order y y != some .eq) = false := by rw [← hy]; exact ne_self y
    have h : ordI x y = -1 := by
      have := pl_notN hy
      have := pl_nan hx
      unfold ordI; rw [if_pos (by omega)]
    rw [h]
    clear hx hy h
    go_enter Try.func93, Try.ntmps93
    go_wp2
    go_ret
    exact ⟨rfl, rfl⟩
  case true.true =>
    have gx : (FloatKind.f64.format.order x x != some .eq) = true := by rw [← hx]; exact ne_self x
    have gy : (FloatKind.f64.format.order y y != some .eq) = true := by rw [← hy]; exact ne_self y
    have h : ordI x y = 0 := by
      have := pl_nan hy
      have := pl_nan hx
      unfold ordI; rw [if_neg (by omega), if_neg (by omega)]
    rw [h]
    clear hx hy h
    go_enter Try.func93, Try.ntmps93
    go_wp2
    go_ret
    exact ⟨rfl, rfl⟩

theorem shl1 (x : Nat) : IntKind.u64.wrap ((x : Int) * 2) = 2 * (rung x : Int) := by
  rw [IntKind.wrap_u64]; unfold rung; omega

/-- The bits of a float, all NaN as one. -/
theorem rb_any (x : Nat) (w : World) : Calls Try.prog 132 #[.float .f64 x] w fun e w' => e = .returned (.int .u64 (cn x : Nat)) ∧ w = w' := by
  have hb := bits_run x
  have hw := shl1 x
  cases hx : isN x
  · rw [cn_of_notN hx]
    have hi := hx
    rw [isN_iff] at hi
    have hi := of_decide_eq_false hi
    have hsh : decide (18437736874454810624 < IntKind.u64.wrap ((x : Int) * 2)) = false := decide_eq_false (by omega)
    clear hx hi hw
    go_enter Try.func132, Try.ntmps132
    go_wp2_with (simp only [hb])
    go_ret
    exact ⟨rfl, rfl⟩
  · rw [cn_of_N hx]
    have hi := hx
    rw [isN_iff] at hi
    have hi := of_decide_eq_true hi
    have hsh : decide (18437736874454810624 < IntKind.u64.wrap ((x : Int) * 2)) = true := decide_eq_true (by omega)
    clear hx hi hw
    go_enter Try.func132, Try.ntmps132
    go_wp2_with (simp only [hb])
    go_ret
    exact ⟨rfl, rfl⟩

/-- A word of 64 bits, all NaN as one. -/
def W64 (x : Nat) : Prop := cn x < 18446744073709551616

theorem place_any (x : Nat) (w : World) (h64 : W64 x) : Calls Try.prog 125 #[.float .f64 x] w fun e w' => e = .returned (.int .i64 (pl x)) ∧ w = w' := by
  cases hx : isN x
  · unfold W64 at h64
    rw [cn_of_notN hx] at h64
    have hc := cn_of_notN hx
    have hi := hx
    rw [isN_iff] at hi
    have hi := of_decide_eq_false hi
    have hpl : pl x = if sgn x then -(rung x : Int) else rung x := by unfold pl; rw [hx]; rfl
    have hne : ((x : Int) == 9221120237041090561) = false := by unfold rung at hi; simp; omega
    have hw := shl1 x
    rw [hpl]
    have HC := Lib.hid hc
    have r64 : IntKind.i64.wrap (x : Int) = x ∨ sgn x = true := by
      rw [IntKind.wrap_i64]; unfold sgn
      by_cases h : x < 9223372036854775808
      · left; omega
      · right; simp; omega
    cases hs : sgn x
    · have h1 : ((x : Int) / 9223372036854775808 == 1) = false := by unfold sgn at hs; simp at hs ⊢; omega
      have hr : (rung x : Int) = x := by unfold sgn at hs; unfold rung; simp at hs; omega
      have hb : x < 9223372036854775808 := by unfold rung at hr; omega
      simp only [Bool.false_eq_true, if_false]
      rw [hr]
      clear hx hi hpl hw hs hc r64 hr
      go_enter Try.func125, Try.ntmps125
      go_wp2_with (go_at_call 132; refine (rb_any _ _).mono ?_; rintro e w' ⟨rfl, rfl⟩; rw [HC.out])
      go_ret
      exact ⟨rfl, rfl⟩
    · have h1 : ((x : Int) / 9223372036854775808 == 1) = true := by unfold sgn at hs; simp at hs ⊢; omega
      simp only [if_true]
      clear hx hpl hs hc r64
      go_enter Try.func125, Try.ntmps125
      go_wp2_with (go_at_call 132; refine (rb_any _ _).mono ?_; rintro e w' ⟨rfl, rfl⟩; rw [HC.out])
      go_ret
      exact ⟨rfl, rfl⟩
  · rw [pl_nan hx]
    have HC := Lib.hid (cn_of_N hx)
    clear hx
    go_enter Try.func125, Try.ntmps125
    go_wp2_with (go_at_call 132; refine (rb_any _ _).mono ?_; rintro e w' ⟨rfl, rfl⟩; rw [HC.out])
    go_ret
    exact ⟨rfl, rfl⟩

set_option maxRecDepth 100000 in
theorem reforder_any (x y : Nat) (w : World) (hx : W64 x) (hy : W64 y) :
    Calls Try.prog 117 #[.float .f64 x, .float .f64 y] w fun e w' => e = .returned (.int .i64 (ordI x y)) ∧ w = w' := by
  unfold ordI
  have HX := Lib.hid hx
  have HY := Lib.hid hy
  clear hx hy
  by_cases h1 : pl x < pl y
  · have d1 : decide (pl x < pl y) = true := decide_eq_true h1
    rw [if_pos h1]
    clear h1
    go_enter Try.func117, Try.ntmps117
    go_wp2_with (first | (go_at_call 125; (with_reducible refine (place_any x _ HX.out).mono ?_); rintro e w' ⟨rfl, rfl⟩) | (go_at_call 125; (with_reducible refine (place_any y _ HY.out).mono ?_); rintro e w' ⟨rfl, rfl⟩))
    go_ret
    exact ⟨rfl, rfl⟩
  · have d1 : decide (pl x < pl y) = false := decide_eq_false h1
    rw [if_neg h1]
    by_cases h2 : pl y < pl x
    · have d2 : decide (pl y < pl x) = true := decide_eq_true h2
      rw [if_pos h2]
      clear h1 h2
      go_enter Try.func117, Try.ntmps117
      go_wp2_with (first | (go_at_call 125; (with_reducible refine (place_any x _ HX.out).mono ?_); rintro e w' ⟨rfl, rfl⟩) | (go_at_call 125; (with_reducible refine (place_any y _ HY.out).mono ?_); rintro e w' ⟨rfl, rfl⟩))
      go_ret
      exact ⟨rfl, rfl⟩
    · have d2 : decide (pl y < pl x) = false := decide_eq_false h2
      rw [if_neg h2]
      clear h1 h2
      go_enter Try.func117, Try.ntmps117
      go_wp2_with (first | (go_at_call 125; (with_reducible refine (place_any x _ HX.out).mono ?_); rintro e w' ⟨rfl, rfl⟩) | (go_at_call 125; (with_reducible refine (place_any y _ HY.out).mono ?_); rintro e w' ⟨rfl, rfl⟩))
      go_ret
      exact ⟨rfl, rfl⟩

end Go.Proofs.Ytllphokepjekpaa
