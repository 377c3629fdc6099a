/- math.Sqrt; Spread on both sides. -/
import Derived.Test.YtllphokepjekpaaVars
import Derived.Laws.Externs
namespace Go.Proofs.Ytllphokepjekpaa
open Go.Fl Go.Rel Go.RowKit

theorem sqrt_ext (x : Nat) (w : World) : (callFunc 109 #[.float .f64 x]).run Try.prog w = ((Extern.MathSqrt.sqrt #[.float .f64 x]).run Try.prog w).andThen fun v w' => .ok (.value v) w' :=
  run_callFunc_extern Try.func109 (by kernel_rfl) rfl (by kernel_rfl) (by kernel_rfl) _ w

theorem sqrt_def (x : Nat) : Extern.MathSqrt.sqrt #[.float .f64 x] = (match FloatKind.f64.format.sqrt x with
    | some r => pure (.float .f64 r)
    | none => do pure (.float .f64 (← choose (.nanBits .f64 x x)))) := rfl

theorem fsqrt_cn (x : Nat) : fsqrt (cn x) = fsqrt x := by
  cases h : isN x
  · rw [cn_of_notN h]
  · rw [cn_of_N h]
    obtain ⟨s, t, hr⟩ := read_nan h
    obtain ⟨s2, t2, hr2⟩ := read_nan isN_nanc
    unfold fsqrt Ieee.Format.sqrt
    rw [hr, hr2]; rfl

theorem sqrt_run (x : Nat) (w : World) : ∃ r n, (callFunc 109 #[.float .f64 x]).run Try.prog w = .ok (.value (.float .f64 r)) (w.drewN n) ∧ cn r = fsqrt (cn x) := by
  rw [sqrt_ext, fsqrt_cn, sqrt_def]
  cases h : Ieee.double.sqrt x with
  | some r =>
    refine ⟨r, 0, ?_, ?_⟩
    · have h2 : FloatKind.f64.format.sqrt x = some r := h
      simp [h2, Result.andThen, World.drewN]
    · unfold fsqrt; rw [h]
      exact cn_of_notN (map_write_notN (fun _ hx => root_notN hx) h)
  | none =>
    refine ⟨Question.cut (.nanBits .f64 x x) (w.tape w.drawn (.nanBits .f64 x x)), 1, ?_, ?_⟩
    · have hq : Question.forced (.nanBits .f64 x x) = false := rfl
      have h2 : FloatKind.f64.format.sqrt x = none := h
      simp [h2, choose, Sem.run, Result.andThen, Question.forced, World.drewN]
    · rw [cn_of_N (cut_isN x x _)]; unfold fsqrt; rw [h]; rfl

theorem sqrt_any (x : Nat) (w : World) : Calls Try.prog 60 #[.float .f64 x] w (FRet (fsqrt (cn x)) w) := by
  obtain ⟨r, n, hr, hc⟩ := sqrt_run x w
  have Hc := Lib.hid hc
  clear hc
  go_enter Try.func60, Try.ntmps60
  go_wp2_with (simp only [hr])
  go_ret
  exact ⟨r, n, rfl, Hc.out, rfl⟩

theorem spread_any (a : Option Addr) (n cap : Nat) (xs : List Nat) (w : World) (hr : Row w a n xs) :
    Calls Try.prog 25 #[.slice a n cap] w (FB (fsqrt (varS (xs.map cn))) w) := by
  go_enter Try.func25, Try.ntmps25
  go_wp2_with (first | (go_at_call 24; refine (var_any _ _ _ xs _ hr).mono ?_; rintro e w1 ⟨v, rfl, hv, b1⟩; have Hv := Lib.hid hv; clear hv) | (go_at_call 60; refine (sqrt_any _ _).mono ?_; rintro e w1 ⟨r, m, rfl, h1, rfl⟩; have H1 := Lib.hid h1; clear h1))
  go_ret
  exact ⟨_, rfl, by rw [H1.out, Hv.out], b1.drewN' _⟩

theorem refspread_any (a : Option Addr) (n cap : Nat) (xs : List Nat) (w : World) (hr : Row w a n xs) (hreach : n < 17592186044416) :
    Calls Try.prog 23 #[.slice a n cap] w (FB (fsqrt (varS (xs.map cn))) w) := by
  go_enter Try.func23, Try.ntmps23
  go_wp2_with (first | (go_at_call 22; refine (refvar_any _ _ _ xs _ hr hreach).mono ?_; rintro e w1 ⟨v, rfl, hv, b1⟩; have Hv := Lib.hid hv; clear hv) | (go_at_call 60; refine (sqrt_any _ _).mono ?_; rintro e w1 ⟨r, m, rfl, h1, rfl⟩; have H1 := Lib.hid h1; clear h1))
  go_ret
  exact ⟨_, rfl, by rw [H1.out, Hv.out], b1.drewN' _⟩

end Go.Proofs.Ytllphokepjekpaa
