/- Absolute values, infinities, and the running total of calc. The running total of calc: add, answer; Sum on both sides. calc.Sum and weirref06.Sum: what they answer. slices.ContainsFunc over a list of floats, asked for infinities; calc.Mean. calc.Mean: what it answers. -/
import Derived.Test.YtmmfjknnbkcniaaGreatSmall
import Derived.Test.YtmmfjknnbkcniaaGreatRelTail
import Derived.Test.YtmmfjknnbkcniaaGreatBlock
import Derived.Test.YtmmfjknnbkcniaaGreatFlStore
namespace Go.Proofs.YtmmfjknnbkcniaaGreat
open Go.Fl Go.Rel Go.RowKit

/-- The sign bit. -/
def top : Nat := 9223372036854775808

theorem andNot_top (x : Nat) (P : Program) (T : TypeId) (w : World) : (binOp .andNot T (.int .u64 (x : Int)) (.int .u64 9223372036854775808)).run P w = .ok (.int .u64 ((x % top : Nat) : Int)) w := by
  have h : (BitVec.ofInt 64 (x : Int) &&& ~~~(BitVec.ofInt 64 9223372036854775808)).toNat = x % top := by
    have e1 : BitVec.ofInt 64 (x : Int) = BitVec.ofNat 64 x := by simp
    have e2 : ~~~(BitVec.ofInt 64 9223372036854775808) = BitVec.ofNat 64 9223372036854775807 := by decide +kernel
    rw [e1, e2, BitVec.toNat_and, BitVec.toNat_ofNat, BitVec.toNat_ofNat]
    rw [show (9223372036854775807 : Nat) % 2 ^ 64 = 2 ^ 63 - 1 by decide +kernel, Nat.and_two_pow_sub_one_eq_mod]
    unfold top
    omega
  have hlt : x % top < 9223372036854775808 := Nat.mod_lt _ (by decide +kernel)
  have h2 : IntKind.u64.wrap ((x % top : Nat) : Int) = ((x % top : Nat) : Int) := by
    generalize x % top = r at hlt
    exact IntWalk.u64_in _ (by omega)
  show Sem.run P (Op.intBits .andNot .u64 (x : Int) 9223372036854775808) w = _
  have h3 : Op.intBits .andNot .u64 (x : Int) 9223372036854775808 = pure (.int .u64 (IntKind.u64.wrap (BitVec.ofInt 64 (x : Int) &&& ~~~(BitVec.ofInt 64 9223372036854775808)).toNat)) := rfl
  rw [h3, h, h2]
  rfl

theorem wpList_abs {P : Program} {ops : Array Oper} {Q : Exit → Act → World → Prop} {a : Act} {w : World} {rest : List Oper} {dst : Option Tmp} {ty : TypeId} {pos : String} {after : Array Edge} (t t' : TypeId) (y : Operand) (x : Nat)
    (hx : a.eval y = .int .u64 (x : Int))
    (h : wpList P ops Q ({ dst, op := .move (.const (.int .u64 ((x % top : Nat) : Int))), type := ty, pos, after := #[], guard := none } :: rest) a w) :
    wpList P ops Q ({ dst, op := .binOp .andNot t y (.const (.int .u64 9223372036854775808)) t', type := ty, pos, after, guard := none } :: rest) a w := by
  refine wpList_plain rfl fun K hK => ?_
  unfold Oper.wp
  have : (execOp a.eval { dst, op := .binOp .andNot t y (.const (.int .u64 9223372036854775808)) t', type := ty, pos, after, guard := none }).run P w = .ok (.value (.int .u64 ((x % top : Nat) : Int))) w := by
    simp [execOp, hx, eqGuard, BigFrame.eval_const, andNot_top]
  rw [this]
  exact hK _ _ (wpList_laid h)

/-- The absolute value of a class. -/
def fabs (s : Nat) : Nat := if isN s then nanc else s % top

theorem isN_mod (x : Nat) : isN (x % top) = isN x := by
  have hS : Ieee.double.signWeight = top := by decide +kernel
  unfold isN Ieee.Format.read
  dsimp only
  rw [hS, Nat.mod_mod]
  split
  · rfl
  · split
    · rfl
    · split <;> rfl

theorem cn_abs (x : Nat) : cn (x % top) = fabs (cn x) := by
  unfold fabs
  rw [isN_cn]
  cases h : isN x
  · rw [cn_of_notN (by rw [isN_mod, h]), cn_of_notN h]; rfl
  · rw [cn_of_N (by rw [isN_mod, h])]; rfl

set_option maxRecDepth 100000 in
theorem abs_any (x : Nat) (w : World) : Calls Tryz.prog 68 #[.float .f64 x] w fun e w' => e = .returned (.float .f64 (x % top)) ∧ w = w' := by
  have hb := bits_run x
  have hf := frombits_run ((x : Int) % (top : Int))
  rw [show ((x : Int) % (top : Int)).toNat = x % top by rw [← Int.natCast_emod, Int.toNat_natCast]] at hf
  go_enter Tryz.func68, Tryz.ntmps68
  go_wp2_with (first | (refine wpList_abs _ _ _ x rfl ?_) | simp only [hb] | simp only [hf])
  go_ret
  exact ⟨rfl, rfl⟩

/-- Is the class an infinity? -/
def finf (s : Nat) : Bool := ford (fabs s) 9218868437227405311 == some .gt

theorem isinf_any (x : Nat) (w : World) : Calls Tryz.prog 94 #[.float .f64 x, .int .i64 0] w fun e w' => e = .returned (.bool (finf (cn x))) ∧ w = w' := by
  have ho : (FloatKind.f64.format.order (x % top) 9218868437227405311 == some .gt) = finf (cn x) := by
    unfold finf
    rw [← cn_abs, ford_cn1]
    rfl
  have Ho := Lib.hid ho
  clear ho
  go_enter Tryz.func94, Tryz.ntmps94
  go_wp2_with (go_at_call 68; refine (abs_any _ _).mono ?_; rintro e w' ⟨rfl, rfl⟩)
  go_ret
  exact ⟨ret_bool Ho.out, rfl⟩

theorem infinite_any (x : Nat) (w : World) : Calls Tryz.prog 66 #[.float .f64 x] w fun e w' => e = .returned (.bool (finf (cn x))) ∧ w = w' := by
  go_enter Tryz.func66, Tryz.ntmps66
  go_wp2_with (go_at_call 94; refine (isinf_any _ _).mono ?_; rintro e w' ⟨rfl, rfl⟩)
  go_ret
  exact ⟨rfl, rfl⟩

theorem endless_any (x : Nat) (w : World) : Calls Tryz.prog 80 #[.float .f64 x] w fun e w' => e = .returned (.bool (finf (cn x))) ∧ w = w' := by
  go_enter Tryz.func80, Tryz.ntmps80
  go_wp2_with (go_at_call 94; refine (isinf_any _ _).mono ?_; rintro e w' ⟨rfl, rfl⟩)
  go_ret
  exact ⟨rfl, rfl⟩

end Go.Proofs.YtmmfjknnbkcniaaGreat

namespace Go.Proofs.YtmmfjknnbkcniaaGreat
open Go.Fl Go.Rel Go.RowKit

def fge (x y : Nat) : Bool := ford x y == some .gt || ford x y == some .eq

/-- One number more: the sum, and what was lost. -/
def addT (st : Nat × Nat) (v : Nat) : Nat × Nat :=
  (fadd st.1 v, if finf (fadd st.1 v) = true then 0 else if fge (fabs st.1) (fabs v) = true then fadd st.2 (fadd (fsub st.1 (fadd st.1 v)) v) else fadd st.2 (fadd (fsub v (fadd st.1 v)) st.1))

def AddRet (w : World) (B : Nat) (st : Nat × Nat) (e : Ending) (w' : World) : Prop :=
  e = .returned (.tuple #[]) ∧ ∃ s c n, w' = ((w.setCell ⟨B, 1, none⟩ (.float .f64 c)).setCell ⟨B, 0, none⟩ (.float .f64 s)).drewN n ∧ cn s = st.1 ∧ cn c = st.2

/-- The total of the first k numbers. -/
def totT (ys : List Nat) : Nat → Nat × Nat
  | 0 => (0, 0)
  | k + 1 => addT (totT ys k) (at0 ys k)
def sumS (ys : List Nat) : Nat := fadd (totT ys ys.length).1 (totT ys ys.length).2

end Go.Proofs.YtmmfjknnbkcniaaGreat

namespace Go.Proofs.YtmmfjknnbkcniaaGreat
open Go.Fl Go.Rel Go.RowKit

/-- A float of class s; what was there stays. -/
def FB (s : Nat) (w : World) (e : Ending) (w' : World) : Prop := ∃ r, e = .returned (.float .f64 r) ∧ cn r = s ∧ Below w.heap.size w w'

theorem FRet.fb {s : Nat} {w : World} {e : Ending} {w' : World} (h : FRet s w e w') : FB s w e w' := by
  obtain ⟨r, n, he, hr, rfl⟩ := h
  exact ⟨r, he, hr, (Below.refl _ _).drewN' _⟩

def RSumRel (ys : List Nat) (n : Nat) (w : World) (vs vc i : Value) (wr : World) : Prop :=
  ∃ k s c m, k ≤ n ∧ vs = .float .f64 s ∧ vc = .float .f64 c ∧ i = .int .i64 (k : Int) ∧ wr = w.drewN m ∧ cn s = (totT ys k).1 ∧ cn c = (totT ys k).2

end Go.Proofs.YtmmfjknnbkcniaaGreat

namespace Go.Proofs.YtmmfjknnbkcniaaGreat
open Go.Fl Go.Rel Go.RowKit

def anyInf (ys : List Nat) : Bool := ys.any finf

theorem at0_mem (ys : List Nat) (k : Nat) (h : k < ys.length) : at0 ys k ∈ ys := by
  simp [at0, List.getD, h]

theorem anyInf_true {ys : List Nat} {k : Nat} (h : k < ys.length) (hk : finf (at0 ys k) = true) : anyInf ys = true :=
  List.any_eq_true.2 ⟨_, at0_mem ys k h, hk⟩

theorem anyInf_false {ys : List Nat} (h : ∀ j, j < ys.length → finf (at0 ys j) = false) : anyInf ys = false := by
  unfold anyInf
  rw [List.any_eq_false]
  intro x hx
  obtain ⟨j, hj, rfl⟩ := List.mem_iff_getElem.1 hx
  have := h j hj
  simp [at0, List.getD, hj] at this
  simp [this]

def IdxRet (b : Bool) (w : World) (e : Ending) (w' : World) : Prop := ∃ r : Int, e = .returned (.int .i64 r) ∧ decide (0 ≤ r) = b ∧ -1 ≤ r ∧ w = w'

end Go.Proofs.YtmmfjknnbkcniaaGreat

namespace Go.Proofs.YtmmfjknnbkcniaaGreat
open Go.Fl Go.Rel Go.RowKit

/-- A whole number as a float. -/
def nfl (n : Nat) : Nat := floatOfInt .f64 (n : Int)
theorem cn_nfl (n : Nat) : cn (nfl n) = nfl n := cn_of_notN (show isN (Ieee.double.write (.number ((n : Int) < 0) ((n : Int)).natAbs 0)) = false from write_not_nan _ rfl)

def meanS (ys : List Nat) : Nat :=
  if ys.length = 0 then nanc else
  if finf (sumS ys) = true ∧ anyInf ys = false then sumS (ys.map fun y => fdiv y (nfl ys.length)) else fdiv (sumS ys) (nfl ys.length)

theorem fdiv_cn1 (x y : Nat) : fdiv (cn x) (cn y) = fdiv x y := fop_cn .quo x y

end Go.Proofs.YtmmfjknnbkcniaaGreat
