/- Steps of a walk: a float operation (its NaN drawn), in a list and in a region that draws its order; a call there. -/
import Derived.Test.YtmmfjknnbkcniaaGreatFl
import Derived.Test.YtmmfjknnbkcniaaGreatRel
namespace Go.RowKit
theorem Below.drewN' {B : Nat} {a w : World} (h : Below B a w) (n : Nat) : Below B a (w.drewN n) := ⟨h.os, h.tape, h.output, h.size, h.block⟩
end Go.RowKit
namespace Go.Fl
open Go.Rel


/-- The operations of region n of a piece of code. -/
def regOf (n : Nat) : Code → Option (Array Oper)
  | .region id ops _ => if id = n then some ops else none
  | .seq a b => (regOf n a).orElse fun _ => regOf n b
  | .cond _ a b => (regOf n a).orElse fun _ => regOf n b
  | .block _ b => regOf n b
  | .loop b => regOf n b
  | .scope b => regOf n b
  | _ => none
def regIn (f : Func) (n : Nat) : Array Oper := ((f.body.bind (regOf n))).getD #[]

theorem quiet_of_eq {P : Program} {f : FuncId} {args : Array Value} {w : World} {n : Nat} {v : Value}
    (h : Calls P f args (w.drewN n) fun e w' => e = .returned v ∧ w.drewN n = w') : Calls P f args (w.drewN n) fun e w'' => e = .returned v ∧ ∃ m, w'' = w.drewN m :=
  h.mono fun _ _ ⟨he, hm⟩ => ⟨he, n, hm.symm⟩

/-- .. behind an elder draw. -/
theorem quiet_of_eq2 {P : Program} {f : FuncId} {args : Array Value} {w : World} {a n : Nat} {v : Value}
    (h : Calls P f args (w.drewN (a + n)) fun e w' => e = .returned v ∧ w.drewN (a + n) = w') : Calls P f args (w.drewN (a + n)) fun e w'' => e = .returned v ∧ ∃ m, w'' = w.drewN (a + m) :=
  h.mono fun _ _ ⟨he, hm⟩ => ⟨he, n, hm.symm⟩

/-- A box of the call's own behind a callee that leaves it alone. -/
theorem boxed {w w1 : World} {cs : Array Value} {t : TypeId} (h : RowKit.Below (w.alloc (.cells cs t)).heap.size (w.alloc (.cells cs t)) w1) (j : Nat) : w1.cell? ⟨w.heap.size, j, none⟩ = cs[j]? := by
  rw [h.cell (p := ⟨w.heap.size, j, none⟩) (by simp)]
  exact World.cell?_alloc_at cs t _ j rfl

theorem ret_int {k : IntKind} {a b : Int} (h : a = b) : Ending.returned (.int k a) = .returned (.int k b) := by rw [h]
theorem ret_bool {a b : Bool} (h : a = b) : Ending.returned (.bool a) = .returned (.bool b) := by rw [h]
theorem ret_int2 {k l : IntKind} {a b c d : Int} (h : a = b) (h' : c = d) : Ending.returned (.tuple #[.int k a, .int l c]) = .returned (.tuple #[.int k b, .int l d]) := by rw [h, h']

theorem fop_add : fop .add = fadd := rfl
theorem fop_sub : fop .sub = fsub := rfl
theorem fop_mul : fop .mul = fmul := rfl
theorem fop_quo : fop .quo = fdiv := rfl

def isArith : BinOp → Bool
  | .add | .sub | .mul | .quo => true
  | _ => false

theorem isArith_spec {op : BinOp} (h : isArith op = true) : op = .add ∨ op = .sub ∨ op = .mul ∨ op = .quo := by
  cases op <;> first | (cases h; done) | simp

section
variable {P : Program} {ops : Array Oper} {Q : Exit → Act → World → Prop} {a : Act} {w : World} {rest : List Oper} {o : Oper}

theorem run_fop_op (w : World) (a : Act) (o : Oper) (op : BinOp) (hop : isArith op = true) (t t' : TypeId) (x y : Operand) (ho : o.op = .binOp op t x y t') (p q : Nat)
    (hx : a.eval x = .float .f64 p) (hy : a.eval y = .float .f64 q) :
    ∃ r n, (execOp a.eval o).run P w = .ok (.value (.float .f64 r)) (w.drewN n) ∧ cn r = fop op (cn p) (cn q) := by
  rw [fop_cn]
  obtain ⟨r, n, hr, hc⟩ := run_fop (P := P) w op (isArith_spec hop) t p q
  refine ⟨r, n, ?_, hc⟩
  rcases isArith_spec hop with rfl | rfl | rfl | rfl <;>
    simp [execOp, ho, hx, hy, eqGuard, hr]

/-- What a float operation's temporary is given, as a move of a constant: the walk writes it into the frame. -/
def laid (dst : Option Tmp) (v : Value) (ty : TypeId) (pos : String) : Oper := { dst, op := .move (.const v), type := ty, pos, after := #[], guard := none }

theorem wpList_laid {dst : Option Tmp} {v : Value} {ty : TypeId} {pos : String} (h : wpList P ops Q ({ dst, op := .move (.const v), type := ty, pos, after := #[], guard := none } :: rest) a w) :
    wpList P ops Q rest (a.put dst v) w := by
  unfold wpList at h
  rw [if_pos (by rfl)] at h
  rcases h with h | ⟨⟨h, _⟩, _⟩
  · exact h
  · exact absurd (show noRoomEvent ∈ (#[] : Array Event) from h) (by simp)

theorem wpList_fop {dst : Option Tmp} {ty : TypeId} {pos : String} {after : Array Edge} (op : BinOp) (t t' : TypeId) (x y : Operand) (p q : Nat) (hop : isArith op = true)
    (hx : a.eval x = .float .f64 p) (hy : a.eval y = .float .f64 q)
    (h : ∀ r n, cn r = fop op (cn p) (cn q) → wpList P ops Q ({ dst, op := .move (.const (.float .f64 r)), type := ty, pos, after := #[], guard := none } :: rest) a (w.drewN n)) :
    wpList P ops Q ({ dst, op := .binOp op t x y t', type := ty, pos, after, guard := none } :: rest) a w := by
  obtain ⟨r, n, hr, hc⟩ := run_fop_op (P := P) w a { dst, op := .binOp op t x y t', type := ty, pos, after, guard := none } op hop t t' x y rfl p q hx hy
  refine wpList_plain rfl fun K hK => ?_
  unfold Oper.wp
  rw [hr]
  exact hK _ _ (wpList_laid (h r n hc))

/-- The worlds after some draws. -/
def Drew (w : World) : World → Prop := fun w' => ∃ n, w' = w.drewN n

variable {C : World → Prop} {Rc : FuncId → Array Value → Value → Prop} {Q' : Act → Prop}

theorem drewN_class (w : World) : ∀ w1 n, (∃ nd, w1 = w.drewN nd) → ∃ nd, w1.drewN n = w.drewN nd := by
  rintro _ n ⟨m, rfl⟩
  exact ⟨_, World.drewN_drewN ..⟩

theorem drew_class (w : World) : ∀ w1, (∃ nd, w1 = w.drewN nd) → ∃ nd, w1.drew = w.drewN nd := by
  rintro _ ⟨m, rfl⟩
  exact ⟨m + 1, rfl⟩

theorem wpRel_laid {dst : Option Tmp} {v : Value} {ty : TypeId} {pos : String} (w : World) (hC : C w) (h : wpQuiet P ops C (fun a' => wpRel P ops C Rc Q' rest a') [{ dst, op := .move (.const v), type := ty, pos, after := #[], guard := none }] a) :
    wpRel P ops C Rc Q' rest (a.put dst v) := by
  unfold wpQuiet at h
  rw [if_pos (by rfl)] at h
  obtain ⟨v', h1, h2⟩ := h
  have h3 := h1 w hC
  have h4 : w = w ∧ v = v' := h3
  rw [← h4.2] at h2
  exact h2

theorem wpRel_fop {dst : Option Tmp} {ty : TypeId} {pos : String} {after : Array Edge} {guard : Option (Nat × Bool)} (op : BinOp) (t t' : TypeId) (x y : Operand) (p q : Nat)
    (hg : Region.wanted { dst, op := .binOp op t x y t', type := ty, pos, after, guard } (yielded ops a.tmps) = true) (hop : isArith op = true)
    (hx : a.eval x = .float .f64 p) (hy : a.eval y = .float .f64 q) (hC : ∀ w n, C w → C (w.drewN n))
    (h : ∀ r, cn r = fop op (cn p) (cn q) → wpQuiet P ops C (fun a' => wpRel P ops C Rc Q' rest a') [{ dst, op := .move (.const (.float .f64 r)), type := ty, pos, after := #[], guard := none }] a) :
    wpRel P ops C Rc Q' ({ dst, op := .binOp op t x y t', type := ty, pos, after, guard } :: rest) a := by
  show relAt P ops C Rc _ a _
  unfold relAt
  rw [if_pos hg]
  intro w hw
  obtain ⟨r, n, hr, hc⟩ := run_fop_op (P := P) w a { dst, op := .binOp op t x y t', type := ty, pos, after, guard } op hop t t' x y rfl p q hx hy
  rw [hr]
  exact ⟨hC w n hw, fun v hv => by cases hv; exact wpRel_laid w hw (h r hc)⟩

/-- An operation whose run leaves the world alone, whatever world it is. -/
theorem wpRel_pure (v : Value) (hg : Region.wanted o (yielded ops a.tmps) = true) (hr : ∀ w, C w → (execOp a.eval o).run P w = .ok (.value v) w)
    (h : wpRel P ops C Rc Q' rest (a.put o.dst v)) : wpRel P ops C Rc Q' (o :: rest) a := by
  show relAt P ops C Rc o a _
  unfold relAt
  rw [if_pos hg]
  intro w hw
  rw [hr w hw]
  exact ⟨hw, fun v' hv => by cases hv; exact h⟩

theorem wpRel_move (x : Operand) (hg : Region.wanted o (yielded ops a.tmps) = true) (ho : o.op = .move x ∨ o.op = .assign x)
    (h : wpRel P ops C Rc Q' rest (a.put o.dst (a.eval x))) : wpRel P ops C Rc Q' (o :: rest) a := by
  refine wpRel_pure (a.eval x) hg (fun w _ => ?_) h
  rcases ho with ho | ho <;> (unfold execOp; rw [ho]; rfl)

theorem wpRel_skip (hg : Region.wanted o (yielded ops a.tmps) = false) (h : wpRel P ops C Rc Q' rest (a.put o.dst undef)) : wpRel P ops C Rc Q' (o :: rest) a := by
  show relAt P ops C Rc o a _
  unfold relAt
  rw [if_neg (by rw [hg]; simp)]
  exact h

theorem run_v_ne (s : Sem Value) (w w' : World) (f : FuncId) (args : Array Value) : (do pure (Next.value (← s)) : Sem Next).run P w ≠ .ok (.enter f args) w' := by
  rw [Sem.run_bind]
  cases s.run P w with
  | ok v w1 => intro h; cases h
  | halt x w1 => intro h; cases h

theorem run_u_ne (s : Sem Unit) (w w' : World) (f : FuncId) (args : Array Value) : (do s; pure Next.skip : Sem Next).run P w ≠ .ok (.enter f args) w' := by
  rw [Sem.run_bind]
  cases s.run P w with
  | ok v w1 => intro h; cases h
  | halt x w1 => intro h; cases h

/-- Operations that call no function of the program. -/
def plainOp : Op → Bool
  | .move _ | .assign _ | .pick .. | .box .. | .alloc _ | .build .. | .buildSlice .. | .load .. | .store .. | .nilCheck _ | .binOp .. | .unOp .. | .convert .. | .makeInterface .. | .makeFunc .. | .makeMap .. | .makeSlice .. | .slice .. | .fieldAddr .. | .field .. | .indexAddr .. | .index .. | .lookup .. | .mapUpdate .. | .extract .. => true
  | .call c => match c.callee with | .builtin .len | .builtin .cap | .builtin .append | .builtin .copy | .builtin .min | .builtin .max | .builtin .real | .builtin .imag | .builtin .complex => true | _ => false
  | _ => false

theorem nilCheck_ne (w w' : World) (f : FuncId) (args : Array Value) (o : Oper) (ρ : Operand → Value) (y : Operand) (ho : o.op = .nilCheck y) : (execOp ρ o).run P w ≠ .ok (.enter f args) w' := by
  unfold execOp
  rw [ho]
  dsimp only
  split
  · intro h; cases h
  · intro h; cases h
  · intro h; cases h
  · split
    · intro h; cases h
    · intro h
      simp only [Sem.run_bind] at h
      revert h
      cases Sem.run P program w with
      | halt x w1 => intro h; cases h
      | ok p w1 =>
        intro h
        simp only [Result.andThen] at h
        revert h
        cases Sem.run P _ w1 with
        | halt x w1 => intro h; cases h
        | ok p w1 =>
          intro h
          simp only at h
          revert h
          split <;> (intro h; cases h)
    · intro h; cases h
  · intro h; cases h

theorem plainOp_ne (hp : plainOp o.op = true) (a : Act) (w w' : World) (f : FuncId) (args : Array Value) : (execOp a.eval o).run P w ≠ .ok (.enter f args) w' := by
  cases ho : o.op <;> rw [ho] at hp <;> first | (cases hp; done) | skip
  case nilCheck x => exact nilCheck_ne w w' f args o a.eval x ho
  case move => unfold execOp; rw [ho]; intro h; cases h
  case assign => unfold execOp; rw [ho]; intro h; cases h
  case call c =>
    have he : execOp a.eval o = (do let d ← resolve a.eval c o.type; invoke d.target d.args) := by unfold execOp; rw [ho]
    rw [he]
    unfold resolve
    cases hc : c.callee with
    | value f => simp only [plainOp, hc] at hp; cases hp
    | invoke r n => simp only [plainOp, hc] at hp; cases hp
    | builtin b =>
      simp only [plainOp, hc] at hp
      cases b <;> first | (cases hp; done) | skip
      all_goals exact run_v_ne _ _ _ _ _
  all_goals (unfold execOp; rw [ho]; first | exact run_v_ne _ _ _ _ _ | exact run_u_ne _ _ _ _ _ | skip)
  case pick c x y =>
    dsimp only
    rw [Sem.run_bind]
    cases Sem.run P (asBool (a.eval c)) w with
    | ok v w1 => intro h; cases h
    | halt x w1 => intro h; cases h

/-- One operation by the quiet walk's own step. -/
theorem wpRel_quiet (hp : plainOp o.op = true) (h : wpQuiet P ops C (fun a' => wpRel P ops C Rc Q' rest a') [o] a) : wpRel P ops C Rc Q' (o :: rest) a := by
  show relAt P ops C Rc o a _
  unfold relAt
  unfold wpQuiet at h
  split
  · rename_i hw; rw [if_pos hw] at h
    exact relOp_of_quiet h fun w _ f args w' => plainOp_ne hp a w w' f args
  · rename_i hw; rw [if_neg hw] at h
    exact h

theorem run_call_go (a : Act) (w : World) (o : Oper) (f : FuncId) (fn : Func) (xs : Array Operand) (ats : Array TypeId) (ho : o.op = .call { callee := .value (.func f), args := xs, argTypes := ats })
    (hf : P.funcs[f]? = some fn) (hb : fn.body.isNone = false) (hn : (fn.name == "runtime.NumGoroutine") = false) :
    (execOp a.eval o).run P w = .ok (.enter f (xs.map a.eval)) w := by
  have : execOp a.eval o = callFunc f (#[] ++ xs.map a.eval ++ #[]) := by unfold execOp; rw [ho]; rfl
  rw [this]
  have hb' : fn.body ≠ none := by intro h; rw [h] at hb; cases hb
  have hn' : fn.name ≠ "runtime.NumGoroutine" := by simpa using hn
  simp [callFunc, program, Sem.run, Sem.run_bind, hf, hb', hn']

theorem wpRel_call {dst : Option Tmp} {ty : TypeId} {pos : String} {after : Array Edge} {guard : Option (Nat × Bool)} (f : FuncId) (fn : Func) (xs : Array Operand) (ats : Array TypeId) (args : Array Value)
    (hg : Region.wanted { dst, op := .call { callee := .value (.func f), args := xs, argTypes := ats }, type := ty, pos, after, guard } (yielded ops a.tmps) = true)
    (hf : P.funcs[f]? = some fn) (hb : fn.body.isNone = false) (hn : (fn.name == "runtime.NumGoroutine") = false) (hargs : xs.map a.eval = args)
    (hc : ∀ w, C w → Calls P f args w fun e w2 => ∃ v, e = .returned v ∧ Rc f args v ∧ C w2)
    (h : ∀ v, Rc f args v → wpQuiet P ops C (fun a' => wpRel P ops C Rc Q' rest a') [{ dst, op := .move (.const v), type := ty, pos, after := #[], guard := none }] a) :
    wpRel P ops C Rc Q' ({ dst, op := .call { callee := .value (.func f), args := xs, argTypes := ats }, type := ty, pos, after, guard } :: rest) a := by
  show relAt P ops C Rc _ a _
  unfold relAt
  rw [if_pos hg]
  intro w hw
  rw [run_call_go a w _ f fn xs ats rfl hf hb hn, hargs]
  exact ⟨hc w hw, fun v hv => wpRel_laid w hw (h v hv)⟩

end
end Go.Fl
