/- A region that draws its order and whose last operation waits for all others: that one may write. A store of a float into a cell: the walk's law (those of ints, bools, pointers .. are the kit's). Absolute values, infinities, and the running total of calc. The running total of calc: add, answer; Sum on both sides. calc.Sum and weirref06.Sum: what they answer. slices.ContainsFunc over a list of floats, asked for infinities; calc.Mean. calc.Mean: what it answers. -/
import Derived.Test.YtmmfjknnbkcniaaGreatDoorV01
import Derived.WalkKit
import Derived.Test.YtmmfjknnbkcniaaGreatDoorV02
set_option maxHeartbeats 64000000
set_option maxRecDepth 100000
namespace Go.Rel
section
variable {P : Program} {ops : Array Oper} {C : World → Prop} {Rc : FuncId → Array Value → Value → Prop}
def leftTo (m : Nat) (listed : Array Bool) : List Nat := (List.range m).filter fun i => !listed.getD i true
theorem wpAny_done_of {Q : Exit → Act → World → Prop} : ∀ (fuel : Nat) (listed : Array Bool) (a : Act) (w : World), Region.ready .any ops listed = [] → Q .normal a w → wpAny P .any ops Q fuel listed a w
 | 0, _, _, _, hr, h => ⟨hr, h⟩
 | _ + 1, _, _, _, hr, h => ⟨fun _ => h, fun i hi => by rw [hr] at hi; cases hi⟩
theorem wpRelI_of_wpRel' {Q' : Act → Prop} (l : List Oper) : ∀ k, (∀ j, j < l.length → l[j]? = ops[k + j]?) → ∀ a, wpRel P ops C Rc Q' l a → wpRelI P ops C Rc Q' (List.range' k l.length) a := by
 induction l with
 | nil => intro k _ a h; exact h
 | cons o l ih =>
  intro k h a hh
  have h0 : ops[k]? = some o := by simpa using (h 0 (by simp)).symm
  have ih' := ih (k + 1) (fun j hj => by have := h (j + 1) (by simpa using hj); simpa [Nat.add_assoc, Nat.add_comm 1 j] using this)
  simp only [List.length_cons, List.range'_succ, wpRelI, h0]
  exact relAt_mono ih' hh
end
end Go.Rel
namespace Go
section
variable {P : Program} {w : World} {a : Addr} {m : Mode}
@[go_sem] theorem run_store_float (k : FloatKind) (b : Nat) : (store a (.float k b) m).run P w = stored P w a (.float k b) m := run_store P w a _ m rfl
@[go_sem] theorem run_store_complex (k : FloatKind) (x y : Nat) : (store a (.complex k x y) m).run P w = stored P w a (.complex k x y) m := run_store P w a _ m rfl
end
end Go
namespace Go.Proofs.YtmmfjknnbkcniaaGreatDoor
open Go.Fl Go.Rel Go.RowKit
def top : Nat := 9223372036854775808
theorem andNot_top (x : Nat) (P : Program) (T : TypeId) (w : World) : (binOp .andNot T (.int .u64 (x : Int)) (.int .u64 9223372036854775808)).run P w = .ok (.int .u64 ((x % top : Nat) : Int)) w := by
 have h : (BitVec.ofInt 64 (x : Int) &&& ~~~(BitVec.ofInt 64 9223372036854775808)).toNat = x % top := by
  have e1 : BitVec.ofInt 64 (x : Int) = BitVec.ofNat 64 x := by simp
  have e2 : ~~~(BitVec.ofInt 64 9223372036854775808) = BitVec.ofNat 64 9223372036854775807 := by decide +kernel
  rw [e1, e2, BitVec.toNat_and, BitVec.toNat_ofNat, BitVec.toNat_ofNat]
  rw [show (9223372036854775807 : Nat) % 2 ^ 64 = 2 ^ 63 - 1 by decide +kernel, Nat.and_two_pow_sub_one_eq_mod]
  unfold top
  omega
 have hlt : x % top < 9223372036854775808 := Nat.mod_lt _ (by decide +kernel)
 have h2 : IntKind.u64.wrap ((x % top : Nat) : Int) = ((x % top : Nat) : Int) := by
  generalize x % top = r at hlt
  exact IntWalk.u64_in _ (by omega)
 show Sem.run P (Op.intBits .andNot .u64 (x : Int) 9223372036854775808) w = _
 have h3 : Op.intBits .andNot .u64 (x : Int) 9223372036854775808 = pure (.int .u64 (IntKind.u64.wrap (BitVec.ofInt 64 (x : Int) &&& ~~~(BitVec.ofInt 64 9223372036854775808)).toNat)) := rfl
 rw [h3, h, h2]
 rfl
theorem wpList_abs {P : Program} {ops : Array Oper} {Q : Exit → Act → World → Prop} {a : Act} {w : World} {rest : List Oper} {dst : Option Tmp} {ty : TypeId} {pos : String} {after : Array Edge} (t t' : TypeId) (y : Operand) (x : Nat)
  (hx : a.eval y = .int .u64 (x : Int))
  (h : wpList P ops Q ({ dst, op := .move (.const (.int .u64 ((x % top : Nat) : Int))), type := ty, pos, after := #[], guard := none } :: rest) a w) :
  wpList P ops Q ({ dst, op := .binOp .andNot t y (.const (.int .u64 9223372036854775808)) t', type := ty, pos, after, guard := none } :: rest) a w := by
 refine wpList_plain rfl fun K hK => ?_
 unfold Oper.wp
 have : (execOp a.eval { dst, op := .binOp .andNot t y (.const (.int .u64 9223372036854775808)) t', type := ty, pos, after, guard := none }).run P w = .ok (.value (.int .u64 ((x % top : Nat) : Int))) w := by
  simp [execOp, hx, eqGuard, BigFrame.eval_const, andNot_top]
 rw [this]
 exact hK _ _ (wpList_laid h)
def fabs (s : Nat) : Nat := if isN s then nanc else s % top
theorem isN_mod (x : Nat) : isN (x % top) = isN x := by
 have hS : Ieee.double.signWeight = top := by decide +kernel
 unfold isN Ieee.Format.read
 dsimp only
 rw [hS, Nat.mod_mod]
 split
 ·rfl
 ·split
  ·rfl
  ·split <;> rfl
theorem cn_abs (x : Nat) : cn (x % top) = fabs (cn x) := by
 unfold fabs
 rw [isN_cn]
 cases h : isN x
 ·rw [cn_of_notN (by rw [isN_mod, h]), cn_of_notN h]; rfl
 ·rw [cn_of_N (by rw [isN_mod, h])]; rfl
theorem abs_any (x : Nat) (w : World) : Calls Tryz.prog 79 #[.float .f64 x] w fun e w' => e = .returned (.float .f64 (x % top)) ∧ w = w' := by
 have hb := bits_run x
 have hf := frombits_run ((x : Int) % (top : Int))
 rw [show ((x : Int) % (top : Int)).toNat = x % top by rw [← Int.natCast_emod, Int.toNat_natCast]] at hf
 go_enter Tryz.func79, Tryz.ntmps79
 go_wp2_with (first | (refine wpList_abs _ _ _ x rfl ?_) | simp only [hb] | simp only [hf])
 go_ret
 exact ⟨rfl, rfl⟩
def finf (s : Nat) : Bool := ford (fabs s) 9218868437227405311 == some .gt
theorem isinf_any (x : Nat) (w : World) : Calls Tryz.prog 109 #[.float .f64 x, .int .i64 0] w fun e w' => e = .returned (.bool (finf (cn x))) ∧ w = w' := by
 have ho : (FloatKind.f64.format.order (x % top) 9218868437227405311 == some .gt) = finf (cn x) := by
  unfold finf
  rw [← cn_abs, ford_cn1]
  rfl
 have Ho := qh ho
 clear ho
 go_enter Tryz.func109, Tryz.ntmps109
 go_wp2_with (go_at_call 79; refine (abs_any _ _).mono ?_; rintro e w' ⟨rfl, rfl⟩)
 go_ret
 exact ⟨ret_bool Ho.out, rfl⟩
theorem infinite_any (x : Nat) (w : World) : Calls Tryz.prog 77 #[.float .f64 x] w fun e w' => e = .returned (.bool (finf (cn x))) ∧ w = w' := by
 go_enter Tryz.func77, Tryz.ntmps77
 go_wp2_with (go_at_call 109; refine (isinf_any _ _).mono ?_; rintro e w' ⟨rfl, rfl⟩)
 go_ret
 exact ⟨rfl, rfl⟩
theorem endless_any (x : Nat) (w : World) : Calls Tryz.prog 127 #[.float .f64 x] w fun e w' => e = .returned (.bool (finf (cn x))) ∧ w = w' := by
 go_enter Tryz.func127, Tryz.ntmps127
 go_wp2_with (go_at_call 109; refine (isinf_any _ _).mono ?_; rintro e w' ⟨rfl, rfl⟩)
 go_ret
 exact ⟨rfl, rfl⟩
end Go.Proofs.YtmmfjknnbkcniaaGreatDoor
namespace Go.Proofs.YtmmfjknnbkcniaaGreatDoor
open Go.Fl Go.Rel Go.RowKit
end Go.Proofs.YtmmfjknnbkcniaaGreatDoor
namespace Go.Proofs.YtmmfjknnbkcniaaGreatDoor
open Go.Fl Go.Rel Go.RowKit
def FB (s : Nat) (w : World) (e : Ending) (w' : World) : Prop := ∃ r, e = .returned (.float .f64 r) ∧ cn r = s ∧ Below w.heap.size w w'
theorem FRet.fb {s : Nat} {w : World} {e : Ending} {w' : World} (h : FRet s w e w') : FB s w e w' := by
 obtain ⟨r, n, he, hr, rfl⟩ := h
 exact ⟨r, he, hr, (Below.refl _ _).drewN' _⟩
end Go.Proofs.YtmmfjknnbkcniaaGreatDoor
namespace Go.Proofs.YtmmfjknnbkcniaaGreatDoor
open Go.Fl Go.Rel Go.RowKit
end Go.Proofs.YtmmfjknnbkcniaaGreatDoor
namespace Go.Proofs.YtmmfjknnbkcniaaGreatDoor
open Go.Fl Go.Rel Go.RowKit
end Go.Proofs.YtmmfjknnbkcniaaGreatDoor
