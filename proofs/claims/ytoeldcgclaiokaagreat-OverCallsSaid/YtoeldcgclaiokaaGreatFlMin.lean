/- min of two floats: its class, its step in a walk. -/
import Derived.Test.YtoeldcgclaiokaaGreatStep
import Derived.OwnWalk
namespace Go.Fl
open Go.Rel Go.RowKit

/-- The lesser of two classes, as the builtin answers it. -/
def fmin (x y : Nat) : Nat := match ford x y with
  | none => nanc
  | some .lt => x
  | some .gt => y
  | some .eq => if (FloatKind.f64.decode x).neg = true then x else y

theorem cut_isN_min (b : Bool) (x y t : Nat) : isN (Question.cut (.nanMinMax .f64 b x y) t) = true := drawn_isN t

theorem ford_some {x y : Nat} {o : Ordering} (h : ford x y = some o) : isN x = false ∧ isN y = false := by
  constructor
  · cases hx : isN x with
    | false => rfl
    | true => rw [ford_N1 y hx] at h; cases h
  · cases hy : isN y with
    | false => rfl
    | true => rw [ford_N2 x hy] at h; cases h

section
variable {P : Program} {ops : Array Oper} {Q : Exit → Act → World → Prop} {a : Act} {w : World} {rest : List Oper}

theorem run_fmin (w : World) (ts : Array TypeId) (t : TypeId) (x y : Nat) :
    ∃ r n, (Builtin.min_ ts t #[.float .f64 x, .float .f64 y]).run P w = .ok (.float .f64 r) (w.drewN n) ∧ cn r = fmin (cn x) (cn y) := by
  have ho : FloatKind.f64.format.order x y = ford x y := rfl
  have hc := ford_cn x y
  cases h : ford x y with
  | none =>
    refine ⟨Question.cut (.nanMinMax .f64 false x y) (w.tape w.drawn (.nanMinMax .f64 false x y)), 1, ?_, ?_⟩
    · have hq : Question.forced (.nanMinMax .f64 false x y) = false := rfl
      rw [h] at ho
      simp [Builtin.min_, Builtin.min2, ho, choose, Sem.run, Question.forced, World.drewN]
    · rw [cn_of_N (cut_isN_min false x y _)]
      unfold fmin
      rw [hc, h]
  | some o =>
    obtain ⟨hx, hy⟩ := ford_some h
    rw [h] at ho
    have e1 := cn_of_notN hx
    have e2 := cn_of_notN hy
    cases o with
    | lt =>
      refine ⟨x, 0, by simp [Builtin.min_, Builtin.min2, ho, World.drewN], ?_⟩
      unfold fmin
      rw [hc, h]
    | gt =>
      refine ⟨y, 0, by simp [Builtin.min_, Builtin.min2, ho, World.drewN], ?_⟩
      unfold fmin
      rw [hc, h]
    | eq =>
      refine ⟨if (FloatKind.f64.decode x).neg = true then x else y, 0, by simp [Builtin.min_, Builtin.min2, ho, World.drewN], ?_⟩
      unfold fmin
      rw [hc, h, e1, e2]
      dsimp only
      split
      · exact e1
      · exact e2

theorem wpList_fmin {dst : Option Tmp} {ty : TypeId} {pos : String} {after : Array Edge} {ats : Array TypeId} (x y : Operand) (p q : Nat)
    (hx : a.eval x = .float .f64 p) (hy : a.eval y = .float .f64 q)
    (h : ∀ r n, cn r = fmin (cn p) (cn q) → wpList P ops Q ({ dst, op := .move (.const (.float .f64 r)), type := ty, pos, after := #[], guard := none } :: rest) a (w.drewN n)) :
    wpList P ops Q ({ dst, op := .call { callee := .builtin .min, args := #[x, y], argTypes := ats }, type := ty, pos, after, guard := none } :: rest) a w := by
  obtain ⟨r, n, hr, hc⟩ := run_fmin (P := P) w ats ty p q
  refine wpList_plain rfl fun K hK => ?_
  unfold Oper.wp execOp
  simp only [resolve, invoke, builtin, Sem.run_bind, Sem.run_pure, Result.andThen_ok, List.map_toArray, List.map_cons, List.map_nil, hx, hy, hr]
  exact hK _ _ (wpList_laid (h r n hc))
end
end Go.Fl
