/- Absolute values, infinities, and the running total of calc. -/
import Derived.Test.YtllphokepjekpaaSmall
import Derived.Test.YtllphokepjekpaaRelTail
import Derived.Test.YtllphokepjekpaaBlock
import Derived.Test.YtllphokepjekpaaFlStore
namespace Go.Proofs.Ytllphokepjekpaa
open Go.Fl Go.Rel Go.RowKit

/-- The sign bit. -/
def top : Nat := 9223372036854775808

theorem andNot_top (x : Nat) (P : Program) (T : TypeId) (w : World) : (binOp .andNot T (.int .u64 (x : Int)) (.int .u64 9223372036854775808)).run P w = .ok (.int .u64 ((x % top : Nat) : Int)) w := by
  have h : (BitVec.ofInt 64 (x : Int) &&& ~~~(BitVec.ofInt 64 9223372036854775808)).toNat = x % top := by
    have e1 : BitVec.ofInt 64 (x : Int) = BitVec.ofNat 64 x := by simp
    have e2 : ~~~(BitVec.ofInt 64 9223372036854775808) = BitVec.ofNat 64 9223372036854775807 := by decide +kernel
    rw [e1, e2, BitVec.toNat_and, BitVec.toNat_ofNat, BitVec.toNat_ofNat]
    rw [show (9223372036854775807 : Nat) % 2 ^ 64 = 2 ^ 63 - 1 by decide +kernel, Nat.and_two_pow_sub_one_eq_mod]
    unfold top
    omega
  have hlt : x % top < 9223372036854775808 := Nat.mod_lt _ (by decide +kernel)
  have h2 : IntKind.u64.wrap ((x % top : Nat) : Int) = ((x % top : Nat) : Int) := by
    generalize x % top = r at hlt
    exact IntWalk.u64_in _ (by omega)
  show Sem.run P (Op.intBits .andNot .u64 (x : Int) 9223372036854775808) w = _
  have h3 : Op.intBits .andNot .u64 (x : Int) 9223372036854775808 = pure (.int .u64 (IntKind.u64.wrap (BitVec.ofInt 64 (x : Int) &&& ~~~(BitVec.ofInt 64 9223372036854775808)).toNat)) := rfl
  rw [h3, h, h2]
  rfl

theorem wpList_abs {P : Program} {ops : Array Oper} {Q : Exit → Act → World → Prop} {a : Act} {w : World} {rest : List Oper} {dst : Option Tmp} {ty : TypeId} {pos : String} {after : Array Edge} (t t' : TypeId) (y : Operand) (x : Nat)
    (hx : a.eval y = .int .u64 (x : Int))
    (h : wpList P ops Q ({ dst, op := .move (.const (.int .u64 ((x % top : Nat) : Int))), type := ty, pos, after := #[], guard := none } :: rest) a w) :
    wpList P ops Q ({ dst, op := .binOp .andNot t y (.const (.int .u64 9223372036854775808)) t', type := ty, pos, after, guard := none } :: rest) a w := by
  refine wpList_plain rfl fun K hK => ?_
  unfold Oper.wp
  have : (execOp a.eval { dst, op := .binOp .andNot t y (.const (.int .u64 9223372036854775808)) t', type := ty, pos, after, guard := none }).run P w = .ok (.value (.int .u64 ((x % top : Nat) : Int))) w := by
    simp [execOp, hx, eqGuard, BigFrame.eval_const, andNot_top]
  rw [this]
  exact hK _ _ (wpList_laid h)

/-- The absolute value of a class. -/
def fabs (s : Nat) : Nat := if isN s then nanc else s % top

theorem isN_mod (x : Nat) : isN (x % top) = isN x := by
  have hS : Ieee.double.signWeight = top := by decide +kernel
  unfold isN Ieee.Format.read
  dsimp only
  rw [hS, Nat.mod_mod]
  split
  · rfl
  · split
    · rfl
    · split <;> rfl

theorem cn_abs (x : Nat) : cn (x % top) = fabs (cn x) := by
  unfold fabs
  rw [isN_cn]
  cases h : isN x
  · rw [cn_of_notN (by rw [isN_mod, h]), cn_of_notN h]; rfl
  · rw [cn_of_N (by rw [isN_mod, h])]; rfl

set_option maxRecDepth 100000 in
theorem abs_any (x : Nat) (w : World) : Calls Try.prog 33 #[.float .f64 x] w fun e w' => e = .returned (.float .f64 (x % top)) ∧ w = w' := by
  have hb := bits_run x
  have hf := frombits_run ((x : Int) % (top : Int))
  rw [show ((x : Int) % (top : Int)).toNat = x % top by rw [← Int.natCast_emod, Int.toNat_natCast]] at hf
  go_enter Try.func33, Try.ntmps33
  go_wp2_with (first | (refine wpList_abs _ _ _ x rfl ?_) | simp only [hb] | simp only [hf])
  go_ret
  exact ⟨rfl, rfl⟩

/-- Is the class an infinity? -/
def finf (s : Nat) : Bool := ford (fabs s) 9218868437227405311 == some .gt

theorem isinf_any (x : Nat) (w : World) : Calls Try.prog 89 #[.float .f64 x, .int .i64 0] w fun e w' => e = .returned (.bool (finf (cn x))) ∧ w = w' := by
  have ho : (FloatKind.f64.format.order (x % top) 9218868437227405311 == some .gt) = finf (cn x) := by
    unfold finf
    rw [← cn_abs, ford_cn1]
    rfl
  have Ho := Lib.hid ho
  clear ho
  go_enter Try.func89, Try.ntmps89
  go_wp2_with (go_at_call 33; refine (abs_any _ _).mono ?_; rintro e w' ⟨rfl, rfl⟩)
  go_ret
  exact ⟨ret_bool Ho.out, rfl⟩

theorem infinite_any (x : Nat) (w : World) : Calls Try.prog 57 #[.float .f64 x] w fun e w' => e = .returned (.bool (finf (cn x))) ∧ w = w' := by
  go_enter Try.func57, Try.ntmps57
  go_wp2_with (go_at_call 89; refine (isinf_any _ _).mono ?_; rintro e w' ⟨rfl, rfl⟩)
  go_ret
  exact ⟨rfl, rfl⟩

theorem endless_any (x : Nat) (w : World) : Calls Try.prog 59 #[.float .f64 x] w fun e w' => e = .returned (.bool (finf (cn x))) ∧ w = w' := by
  go_enter Try.func59, Try.ntmps59
  go_wp2_with (go_at_call 89; refine (isinf_any _ _).mono ?_; rintro e w' ⟨rfl, rfl⟩)
  go_ret
  exact ⟨rfl, rfl⟩

end Go.Proofs.Ytllphokepjekpaa
