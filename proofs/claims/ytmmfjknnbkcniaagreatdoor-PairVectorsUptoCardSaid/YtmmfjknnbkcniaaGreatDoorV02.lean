/- Steps of a walk: a float operation (its NaN drawn), in a list and in a region that draws its order; a call there. Small functions: NaN, Inf, bits, comparisons of classes. How arguments that are slices of floats are opened. A block of cells, known whole: through stores, draws and new blocks. A struct put whole into a new block. Lists of labels: what a slice of them holds. Lists of names: slices.Contains, labels.stays, weirref21.has. A list of bytes that a call appends to: its own row. The library's contracts for strconv.AppendInt at this translation: printed by the shelf's lay-shelf.mjs and lay-plain.mjs. -/
import Derived.Test.YtmmfjknnbkcniaaGreatDoorV01
import Derived.Test.YtmmfjknnbkcniaaGreatDoorProg
import Derived.KernelRfl
import Derived.Lib.Hide
import Derived.ProofKit
import Derived.OpenShut
import Derived.Deep.Slices
import Derived.Laws.Tables
import Derived.Laws.CopyOwn
import Derived.Maps.AppendAt
import Derived.Deep.AppendLies
import Derived.Deep.RegionHeld3
import Derived.Lib.UnsafeStr
import Derived.Laws.IdiomStrings
import Derived.OwnWalk
import Derived.WalkKit
import Derived.Shelf.Strconv.Itoa0
import Derived.Shelf.Strconv.Itoa1
import Derived.Shelf.LaysM
import Derived.Shelf.Strconv.Itoa2
import Derived.Shelf.Strconv.AppendUint10
import Derived.Shelf.Strconv.AppendInt10
import Derived.Shelf.Strconv.AppendIntPublic10
set_option maxHeartbeats 64000000
set_option maxRecDepth 100000
namespace Go.RowKit
theorem Below.drewN' {B : Nat} {a w : World} (h : Below B a w) (n : Nat) : Below B a (w.drewN n) := ⟨h.os, h.tape, h.output, h.size, h.block⟩
end Go.RowKit
namespace Go.Fl
open Go.Rel
theorem quiet_of_eq2 {P : Program} {f : FuncId} {args : Array Value} {w : World} {a n : Nat} {v : Value}
  (h : Calls P f args (w.drewN (a + n)) fun e w' => e = .returned v ∧ w.drewN (a + n) = w') : Calls P f args (w.drewN (a + n)) fun e w'' => e = .returned v ∧ ∃ m, w'' = w.drewN (a + m) :=
 h.mono fun _ _ ⟨he, hm⟩ => ⟨he, n, hm.symm⟩
theorem ret_bool {a b : Bool} (h : a = b) : Ending.returned (.bool a) = .returned (.bool b) := by rw [h]
theorem fop_add : fop .add = fadd := rfl
theorem fop_mul : fop .mul = fmul := rfl
theorem fop_quo : fop .quo = fdiv := rfl
def isArith : BinOp → Bool
 | .add | .sub | .mul | .quo => true
 | _ => false
theorem isArith_spec {op : BinOp} (h : isArith op = true) : op = .add ∨ op = .sub ∨ op = .mul ∨ op = .quo := by
 cases op <;> first | (cases h; done) | simp
section
variable {P : Program} {ops : Array Oper} {Q : Exit → Act → World → Prop} {a : Act} {w : World} {rest : List Oper} {o : Oper}
theorem run_fop_op (w : World) (a : Act) (o : Oper) (op : BinOp) (hop : isArith op = true) (t t' : TypeId) (x y : Operand) (ho : o.op = .binOp op t x y t') (p q : Nat)
  (hx : a.eval x = .float .f64 p) (hy : a.eval y = .float .f64 q) :
  ∃ r n, (execOp a.eval o).run P w = .ok (.value (.float .f64 r)) (w.drewN n) ∧ cn r = fop op (cn p) (cn q) := by
 rw [fop_cn]
 obtain ⟨r, n, hr, hc⟩ := run_fop (P := P) w op (isArith_spec hop) t p q
 refine ⟨r, n, ?_, hc⟩
 rcases isArith_spec hop with rfl | rfl | rfl | rfl <;>
  simp [execOp, ho, hx, hy, eqGuard, hr]
def laid (dst : Option Tmp) (v : Value) (ty : TypeId) (pos : String) : Oper := { dst, op := .move (.const v), type := ty, pos, after := #[], guard := none }
theorem wpList_laid {dst : Option Tmp} {v : Value} {ty : TypeId} {pos : String} (h : wpList P ops Q ({ dst, op := .move (.const v), type := ty, pos, after := #[], guard := none } :: rest) a w) :
  wpList P ops Q rest (a.put dst v) w := by
 unfold wpList at h
 rw [if_pos (by rfl)] at h
 rcases h with h | ⟨⟨h, _⟩, _⟩
 ·exact h
 ·exact absurd (show noRoomEvent ∈ (#[] : Array Event) from h) (by simp)
theorem wpList_fop {dst : Option Tmp} {ty : TypeId} {pos : String} {after : Array Edge} (op : BinOp) (t t' : TypeId) (x y : Operand) (p q : Nat) (hop : isArith op = true)
  (hx : a.eval x = .float .f64 p) (hy : a.eval y = .float .f64 q)
  (h : ∀ r n, cn r = fop op (cn p) (cn q) → wpList P ops Q ({ dst, op := .move (.const (.float .f64 r)), type := ty, pos, after := #[], guard := none } :: rest) a (w.drewN n)) :
  wpList P ops Q ({ dst, op := .binOp op t x y t', type := ty, pos, after, guard := none } :: rest) a w := by
 obtain ⟨r, n, hr, hc⟩ := run_fop_op (P := P) w a { dst, op := .binOp op t x y t', type := ty, pos, after, guard := none } op hop t t' x y rfl p q hx hy
 refine wpList_plain rfl fun K hK => ?_
 unfold Oper.wp
 rw [hr]
 exact hK _ _ (wpList_laid (h r n hc))
variable {C : World → Prop} {Rc : FuncId → Array Value → Value → Prop} {Q' : Act → Prop}
theorem drewN_class (w : World) : ∀ w1 n, (∃ nd, w1 = w.drewN nd) → ∃ nd, w1.drewN n = w.drewN nd := by
 rintro _ n ⟨m, rfl⟩
 exact ⟨_, World.drewN_drewN ..⟩
theorem drew_class (w : World) : ∀ w1, (∃ nd, w1 = w.drewN nd) → ∃ nd, w1.drew = w.drewN nd := by
 rintro _ ⟨m, rfl⟩
 exact ⟨m + 1, rfl⟩
theorem wpRel_laid {dst : Option Tmp} {v : Value} {ty : TypeId} {pos : String} (w : World) (hC : C w) (h : wpQuiet P ops C (fun a' => wpRel P ops C Rc Q' rest a') [{ dst, op := .move (.const v), type := ty, pos, after := #[], guard := none }] a) :
  wpRel P ops C Rc Q' rest (a.put dst v) := by
 unfold wpQuiet at h
 rw [if_pos (by rfl)] at h
 obtain ⟨v', h1, h2⟩ := h
 have h3 := h1 w hC
 have h4 : w = w ∧ v = v' := h3
 rw [← h4.2] at h2
 exact h2
theorem wpRel_skip (hg : Region.wanted o (yielded ops a.tmps) = false) (h : wpRel P ops C Rc Q' rest (a.put o.dst undef)) : wpRel P ops C Rc Q' (o :: rest) a := by
 show relAt P ops C Rc o a _
 unfold relAt
 rw [if_neg (by rw [hg]; simp)]
 exact h
theorem run_v_ne (s : Sem Value) (w w' : World) (f : FuncId) (args : Array Value) : (do pure (Next.value (← s)) : Sem Next).run P w ≠ .ok (.enter f args) w' := by
 rw [Sem.run_bind]
 cases s.run P w with
 | ok v w1 => intro h; cases h
 | halt x w1 => intro h; cases h
theorem run_u_ne (s : Sem Unit) (w w' : World) (f : FuncId) (args : Array Value) : (do s; pure Next.skip : Sem Next).run P w ≠ .ok (.enter f args) w' := by
 rw [Sem.run_bind]
 cases s.run P w with
 | ok v w1 => intro h; cases h
 | halt x w1 => intro h; cases h
def plainOp : Op → Bool
 | .move _ | .assign _ | .pick .. | .box .. | .alloc _ | .build .. | .buildSlice .. | .load .. | .store .. | .nilCheck _ | .binOp .. | .unOp .. | .convert .. | .makeInterface .. | .makeFunc .. | .makeMap .. | .makeSlice .. | .slice .. | .fieldAddr .. | .field .. | .indexAddr .. | .index .. | .lookup .. | .mapUpdate .. | .extract .. => true
 | .call c => match c.callee with | .builtin .len | .builtin .cap | .builtin .append | .builtin .copy | .builtin .min | .builtin .max | .builtin .real | .builtin .imag | .builtin .complex => true | _ => false
 | _ => false
theorem nilCheck_ne (w w' : World) (f : FuncId) (args : Array Value) (o : Oper) (ρ : Operand → Value) (y : Operand) (ho : o.op = .nilCheck y) : (execOp ρ o).run P w ≠ .ok (.enter f args) w' := by
 unfold execOp
 rw [ho]
 dsimp only
 split
 ·intro h; cases h
 ·intro h; cases h
 ·intro h; cases h
 ·split
  ·intro h; cases h
  ·intro h
   simp only [Sem.run_bind] at h
   revert h
   cases Sem.run P program w with
   | halt x w1 => intro h; cases h
   | ok p w1 =>
    intro h
    simp only [Result.andThen] at h
    revert h
    cases Sem.run P _ w1 with
    | halt x w1 => intro h; cases h
    | ok p w1 =>
     intro h
     simp only at h
     revert h
     split <;> (intro h; cases h)
  ·intro h; cases h
 ·intro h; cases h
theorem plainOp_ne (hp : plainOp o.op = true) (a : Act) (w w' : World) (f : FuncId) (args : Array Value) : (execOp a.eval o).run P w ≠ .ok (.enter f args) w' := by
 cases ho : o.op <;> rw [ho] at hp <;> first | (cases hp; done) | skip
 case nilCheck x => exact nilCheck_ne w w' f args o a.eval x ho
 case move => unfold execOp; rw [ho]; intro h; cases h
 case assign => unfold execOp; rw [ho]; intro h; cases h
 case call c =>
  have he : execOp a.eval o = (do let d ← resolve a.eval c o.type; invoke d.target d.args) := by unfold execOp; rw [ho]
  rw [he]
  unfold resolve
  cases hc : c.callee with
  | value f => simp only [plainOp, hc] at hp; cases hp
  | invoke r n => simp only [plainOp, hc] at hp; cases hp
  | builtin b =>
   simp only [plainOp, hc] at hp
   cases b <;> first | (cases hp; done) | skip
   all_goals exact run_v_ne _ _ _ _ _
 all_goals (unfold execOp; rw [ho]; first | exact run_v_ne _ _ _ _ _ | exact run_u_ne _ _ _ _ _ | skip)
 case pick c x y =>
  dsimp only
  rw [Sem.run_bind]
  cases Sem.run P (asBool (a.eval c)) w with
  | ok v w1 => intro h; cases h
  | halt x w1 => intro h; cases h
theorem wpRel_quiet (hp : plainOp o.op = true) (h : wpQuiet P ops C (fun a' => wpRel P ops C Rc Q' rest a') [o] a) : wpRel P ops C Rc Q' (o :: rest) a := by
 show relAt P ops C Rc o a _
 unfold relAt
 unfold wpQuiet at h
 split
 ·rename_i hw; rw [if_pos hw] at h
  exact relOp_of_quiet h fun w _ f args w' => plainOp_ne hp a w w' f args
 ·rename_i hw; rw [if_neg hw] at h
  exact h
theorem run_call_go (a : Act) (w : World) (o : Oper) (f : FuncId) (fn : Func) (xs : Array Operand) (ats : Array TypeId) (ho : o.op = .call { callee := .value (.func f), args := xs, argTypes := ats })
  (hf : P.funcs[f]? = some fn) (hb : fn.body.isNone = false) (hn : (fn.name == "runtime.NumGoroutine") = false) :
  (execOp a.eval o).run P w = .ok (.enter f (xs.map a.eval)) w := by
 have : execOp a.eval o = callFunc f (#[] ++ xs.map a.eval ++ #[]) := by unfold execOp; rw [ho]; rfl
 rw [this]
 have hb' : fn.body ≠ none := by intro h; rw [h] at hb; cases hb
 have hn' : fn.name ≠ "runtime.NumGoroutine" := by simpa using hn
 simp [callFunc, program, Sem.run, Sem.run_bind, hf, hb', hn']
theorem wpRel_call {dst : Option Tmp} {ty : TypeId} {pos : String} {after : Array Edge} {guard : Option (Nat × Bool)} (f : FuncId) (fn : Func) (xs : Array Operand) (ats : Array TypeId) (args : Array Value)
  (hg : Region.wanted { dst, op := .call { callee := .value (.func f), args := xs, argTypes := ats }, type := ty, pos, after, guard } (yielded ops a.tmps) = true)
  (hf : P.funcs[f]? = some fn) (hb : fn.body.isNone = false) (hn : (fn.name == "runtime.NumGoroutine") = false) (hargs : xs.map a.eval = args)
  (hc : ∀ w, C w → Calls P f args w fun e w2 => ∃ v, e = .returned v ∧ Rc f args v ∧ C w2)
  (h : ∀ v, Rc f args v → wpQuiet P ops C (fun a' => wpRel P ops C Rc Q' rest a') [{ dst, op := .move (.const v), type := ty, pos, after := #[], guard := none }] a) :
  wpRel P ops C Rc Q' ({ dst, op := .call { callee := .value (.func f), args := xs, argTypes := ats }, type := ty, pos, after, guard } :: rest) a := by
 show relAt P ops C Rc _ a _
 unfold relAt
 rw [if_pos hg]
 intro w hw
 rw [run_call_go a w _ f fn xs ats rfl hf hb hn, hargs]
 exact ⟨hc w hw, fun v hv => wpRel_laid w hw (h v hv)⟩
end
end Go.Fl
namespace Go.Proofs.YtmmfjknnbkcniaaGreatDoor
open Go.Fl Go.Rel Go.RowKit
theorem bits_run (b : Nat) (w : World) : (callFunc 50 #[.float .f64 b]).run Tryz.prog w = .ok (.value (.int .u64 b)) w := by kernel_rfl
theorem frombits_run (n : Int) (w : World) : (callFunc 108 #[.int .u64 n]).run Tryz.prog w = .ok (.value (.float .f64 n.toNat)) w := by kernel_rfl
theorem nan_any (w : World) : Calls Tryz.prog 76 #[] w fun e w' => e = .returned (.float .f64 nanc) ∧ w = w' := by
 have hr := frombits_run 9221120237041090561 w
 go_enter Tryz.func76, Tryz.ntmps76
 go_wp2_with (simp only [hr])
 go_ret
 exact ⟨rfl, rfl⟩
theorem refnan_any (w : World) : Calls Tryz.prog 128 #[] w fun e w' => e = .returned (.float .f64 nanc) ∧ w = w' := by
 go_enter Tryz.func128, Tryz.ntmps128
 go_wp2_with (go_at_call 76; refine (nan_any _).mono ?_; rintro e w' ⟨rfl, rfl⟩)
 go_ret
 exact ⟨rfl, rfl⟩
def FRet (s : Nat) (w : World) (e : Ending) (w' : World) : Prop := ∃ r n, e = .returned (.float .f64 r) ∧ cn r = s ∧ w' = w.drewN n
theorem cn_zero : cn 0 = 0 := by decide +kernel
theorem cn_nanc : cn nanc = nanc := by decide +kernel
def one : Nat := 4607182418800017408
def at0 (xs : List Nat) (i : Nat) : Nat := xs.getD i 0
def Row (w : World) (a : Option Addr) (n : Nat) (xs : List Nat) : Prop :=
 xs.length = n ∧ n ≤ 9223372036854775807 ∧ (0 < n → ∃ b off, a = some ⟨b, off, none⟩ ∧ ∀ i, i < n → w.cell? ⟨b, off + i, none⟩ = some (.float .f64 (at0 xs i)))
theorem Row.below {w w' : World} {a : Option Addr} {n : Nat} {xs : List Nat} (h : Row w a n xs) (hb : Below w.heap.size w w') : Row w' a n xs := by
 obtain ⟨h1, h2, h3⟩ := h
 refine ⟨h1, h2, fun hn => ?_⟩
 obtain ⟨b, off, ha, hc⟩ := h3 hn
 refine ⟨b, off, ha, fun i hi => ?_⟩
 have hlt : b < w.heap.size := World.block_lt_of_cell? w ⟨b, off + i, none⟩ (hc i hi)
 rw [hb.cell (p := ⟨b, off + i, none⟩) hlt]
 exact hc i hi
theorem eq_of_cn {r c : Nat} (h : cn r = c) (hc : isN c = false) : r = c := by
 have := (cn_eq_iff r c).1 (by rw [h, cn_of_notN hc])
 rcases this with ⟨_, h2⟩ | h2
 ·rw [hc] at h2; cases h2
 ·exact h2
end Go.Proofs.YtmmfjknnbkcniaaGreatDoor
namespace Go.Proofs.YtmmfjknnbkcniaaGreatDoor
open Go.Fl Go.Rel Go.RowKit Go.ChangeShapes Go.WideShapes Go.Deep
section
variable {H : Type} {enc : TypeId × Value → H} {P : Program} {w : World} {spare : Nat → Bool} {held : Bool}
end
end Go.Proofs.YtmmfjknnbkcniaaGreatDoor
namespace Go.Bk
open Go.RowKit
def Is (w : World) (B : Nat) (cs : Array Value) (t : TypeId) : Prop := w.heap[B]? = some (.cells cs t (0, 0))
theorem Is.made (w : World) (cs : Array Value) (t : TypeId) : Is (w.alloc (.cells cs t)) w.heap.size cs t := by
 show (w.heap.push _)[w.heap.size]? = _
 rw [Array.getElem?_push_size]
theorem Is.lt {w : World} {B : Nat} {cs : Array Value} {t : TypeId} (h : Is w B cs t) : B < w.heap.size := (Array.getElem?_eq_some_iff.1 h).1
theorem Is.alloc {w : World} {B : Nat} {cs : Array Value} {t : TypeId} (h : Is w B cs t) (o : Obj) : Is (w.alloc o) B cs t := by
 show (w.heap.push o)[B]? = _
 rw [Array.getElem?_push, if_neg (by have := h.lt; omega)]; exact h
theorem Is.drewN {w : World} {B : Nat} {cs : Array Value} {t : TypeId} (h : Is w B cs t) (n : Nat) : Is (w.drewN n) B cs t := h
theorem Is.drew {w : World} {B : Nat} {cs : Array Value} {t : TypeId} (h : Is w B cs t) : Is w.drew B cs t := h
theorem Is.set {w : World} {B : Nat} {cs : Array Value} {t : TypeId} (h : Is w B cs t) (j : Nat) (v : Value) : Is (w.setCell ⟨B, j, none⟩ v) B (cs.setIfInBounds j v) t := by
 unfold Is World.setCell at *
 simp [Array.getElem?_modify, h]
theorem Is.other {w : World} {B : Nat} {cs : Array Value} {t : TypeId} (h : Is w B cs t) {a : Addr} (hne : a.block ≠ B) (v : Value) : Is (w.setCell a v) B cs t := by
 unfold Is World.setCell at *
 simp [Array.getElem?_modify, hne, h]
theorem Is.below {w w' : World} {B : Nat} {cs : Array Value} {t : TypeId} (h : Is w B cs t) {k : Nat} (hb : Below k w w') (hk : B < k) : Is w' B cs t := by
 unfold Is at *
 rw [hb.block B hk]; exact h
theorem Is.cell {w : World} {B : Nat} {cs : Array Value} {t : TypeId} (h : Is w B cs t) (j : Nat) : w.cell? ⟨B, j, none⟩ = cs[j]? := by
 unfold Is at h
 simp [World.cell?, h]
theorem Is.free {w : World} {B : Nat} {cs : Array Value} {t : TypeId} (h : Is w B cs t) (j : Nat) : w.frozen? ⟨B, j, none⟩ = false := by
 unfold Is at h
 simp [World.frozen?, h]
theorem results_block {P : Program} {fn : Func} {p : Tmp} {ty : TypeId} {B : Nat} {cs : Array Value} {t : TypeId} {tmps : Array Value} {w : World} {d : TypeDesc} (h : fn.results = #[.cell p ty])
  (hp : tmps.getD p undef = .pointer (some ⟨B, 0, none⟩)) (hi : Is w B cs t) (hu : P.underlying ty = some d) (hd : (match d with | .struct _ | .array _ _ => true | _ => false) = true)
  (hz : (P.info? ty).map (·.size) = some cs.size) : (results fn tmps).run P w = .ok (.agg cs) w := by
 have hl := run_loadVar_row (P := P) w B t ty cs (0, 0) d hi hu hd hz
 have h1 : (results fn tmps).run P w = ((asAddr (tmps.getD p undef)).run P w).andThen fun a w' => (loadVar ty a).run P w' := by
  simp only [results, h]
  simp [Sem.run_bind]
 rw [h1, hp]
 exact hl
theorem ret_block {P : Program} {fn : Func} {p : Tmp} {ty : TypeId} {B : Nat} {cs : Array Value} {t : TypeId} {a : Act} {w : World} {d : TypeDesc} {R : Ending → World → Prop} (hi : Is w B cs t) (h : fn.results = #[.cell p ty])
  (hp : a.tmps.getD p undef = .pointer (some ⟨B, 0, none⟩)) (hu : P.underlying ty = some d) (hd : (match d with | .struct _ | .array _ _ => true | _ => false) = true)
  (hz : (P.info? ty).map (·.size) = some cs.size) (hdf : a.defers = []) (hR : R (.returned (.agg cs)) w) : bodyPost P fn R .ret a w :=
 bodyPost_ret (results_block h hp hi hu hd hz) hdf hR
end Go.Bk
namespace Go.Bk
open Go.RowKit
theorem Is.setRow {w : World} {B : Nat} {cs : Array Value} {t : TypeId} (h : Is w B cs t) (vs : Array Value) : Is (w.setRow B vs) B vs t := by
 unfold Is World.setRow at *
 simp [Array.getElem?_modify, h]
theorem below_setRow {B k : Nat} {a w : World} (h : Below B a w) (hk : B ≤ k) (vs : Array Value) : Below B a (w.setRow k vs) :=
 h.trans ⟨rfl, rfl, rfl, by simp, fun i hi => by unfold World.setRow; simp [Array.getElem?_modify]; intro e; omega⟩
theorem is_store {P : Program} {ops : Array Oper} {rest : List Oper} {o : Oper} {a : Act} {w : World} {Q : Exit → Act → World → Prop} (ty : TypeId) {x y : Operand} (_ho : o.op = .store ty x y) (h : wpList P ops Q (o :: rest) a w) : wpList P ops Q (o :: rest) a w := h
theorem wpList_store_box {P : Program} {ops : Array Oper} {rest : List Oper} {o : Oper} {a : Act} {w0 : World} {N : Nat} {Q : Exit → Act → World → Prop} (hgd : o.guard = none) (ty : TypeId) (x y : Operand) (ho : o.op = .store ty x y)
  (vals zeros : Array Value) (t : TypeId) (hx : a.eval x = .pointer (some ⟨w0.heap.size, 0, none⟩)) (hy : a.eval y = .agg vals)
  (hi : (P.info? ty).map (·.size) = some vals.size) (hold : zeros.size = vals.size) (h1 : vals.all (·.oneCell') = true)
  (h : ∀ W, Is W w0.heap.size vals t → Below w0.heap.size w0 W → wpList P ops Q rest (a.put o.dst undef) W) : wpList P ops Q (o :: rest) a ((w0.drewN N).alloc (.cells zeros t)) := by
 have hm : Is ((w0.drewN N).alloc (.cells zeros t)) w0.heap.size zeros t := Is.made (w0.drewN N) zeros t
 refine wpList_store_row hgd ty x y ho w0.heap.size vals hx hy t zeros hm hi hold h1 ?_
 exact h _ (hm.setRow vals) (below_setRow (((Below.refl _ _).drewN' N).alloc (Nat.le_refl _) _) (Nat.le_refl _) vals)
end Go.Bk
namespace Go.Fl
structure Lb where
 n : ByteArray
 v : ByteArray
instance : Inhabited Lb := ⟨⟨⟨#[]⟩, ⟨#[]⟩⟩⟩
def lbAt (l : List Lb) (i : Nat) : Lb := l.getD i default
def nL (l : List Lb) (i : Nat) : ByteArray := (lbAt l i).n
def vL (l : List Lb) (i : Nat) : ByteArray := (lbAt l i).v
def SmallT (s : ByteArray) : Prop := s.size ≤ 140737488355328
def SmallL (l : List Lb) : Prop := ∀ i, SmallT (nL l i) ∧ SmallT (vL l i)
theorem lbAt_get {l : List Lb} {i : Nat} (h : i < l.length) : lbAt l i = l[i] := by simp [lbAt, List.getD, h]
end Go.Fl
namespace Go.Proofs.YtmmfjknnbkcniaaGreatDoor
open Go.Fl Go.Rel Go.RowKit Go.ChangeShapes Go.WideShapes Go.Deep
def LRow (w : World) (a : Option Addr) (n : Nat) (ls : List Lb) : Prop :=
 ls.length = n ∧ n ≤ 9223372036854775807 ∧ SmallL ls ∧
 (0 < n → ∃ b off, a = some ⟨b, off, none⟩ ∧ b < w.heap.size ∧ ∀ i, i < n → w.cell? ⟨b, off + i * 2, none⟩ = some (.string (nL ls i)) ∧ w.cell? ⟨b, off + i * 2 + 1, none⟩ = some (.string (vL ls i)))
theorem LRow.below {w w' : World} {a : Option Addr} {n : Nat} {ls : List Lb} (h : LRow w a n ls) (hb : Below w.heap.size w w') : LRow w' a n ls := by
 obtain ⟨h1, h2, h3, h4⟩ := h
 refine ⟨h1, h2, h3, fun hn => ?_⟩
 obtain ⟨b, off, ha, hlt, hc⟩ := h4 hn
 refine ⟨b, off, ha, Nat.lt_of_lt_of_le hlt hb.size, fun i hi => ?_⟩
 obtain ⟨c0, c1⟩ := hc i hi
 rw [hb.cell (p := ⟨b, off + i * 2, none⟩) hlt, hb.cell (p := ⟨b, off + i * 2 + 1, none⟩) hlt]
 exact ⟨c0, c1⟩
theorem LRow.nothing {w : World} (a : Option Addr) : LRow w a 0 [] := ⟨rfl, by omega, fun i => by unfold nL vL lbAt SmallT; simp; exact ⟨by decide, by decide⟩, fun h => by omega⟩
def lbCells (s : Lb) : List Value := [.string s.n, .string s.v]
theorem lbCells_length (ls : List Lb) : (ls.flatMap lbCells).length = ls.length * 2 := by
 induction ls with
 | nil => rfl
 | cons x xs ih => rw [List.flatMap_cons, List.length_append, ih]; simp [lbCells]; omega
end Go.Proofs.YtmmfjknnbkcniaaGreatDoor
namespace Go.Fl
def nsAt (l : List ByteArray) (i : Nat) : ByteArray := l.getD i ⟨#[]⟩
theorem nsAt_get {l : List ByteArray} {i : Nat} (h : i < l.length) : nsAt l i = l[i] := by simp [nsAt, List.getD, h]
def inN (ns : List ByteArray) (u : ByteArray) : Bool := ns.any fun s => s.toList == u.toList
theorem inN_take {ns : List ByteArray} {u : ByteArray} {k : Nat} (h : k < ns.length) : inN (ns.take (k + 1)) u = (inN (ns.take k) u || ((nsAt ns k).toList == u.toList)) := by
 unfold inN
 rw [List.take_add_one, List.getElem?_eq_getElem h, List.any_append, nsAt_get h]
 simp
theorem inN_yes {ns : List ByteArray} {u : ByteArray} {k : Nat} (h : k < ns.length) (he : ((nsAt ns k).toList == u.toList) = true) : inN ns u = true := by
 unfold inN
 rw [List.any_eq_true]
 exact ⟨ns[k], List.getElem_mem _, by rw [← nsAt_get h]; exact he⟩
theorem beq_swap (a b : List UInt8) : (a == b) = (b == a) := by
 rw [Bool.eq_iff_iff, beq_iff_eq, beq_iff_eq]; exact eq_comm
end Go.Fl
namespace Go.Proofs.YtmmfjknnbkcniaaGreatDoor
open Go.Fl Go.Rel Go.RowKit
set_option linter.unusedSimpArgs false
set_option linter.unusedVariables false
def NRow (w : World) (a : Option Addr) (n : Nat) (ns : List ByteArray) : Prop :=
 ns.length = n ∧ n ≤ 9223372036854775807 ∧ (∀ s ∈ ns, SmallT s) ∧
 (0 < n → ∃ b off, a = some ⟨b, off, none⟩ ∧ b < w.heap.size ∧ ∀ i, i < n → w.cell? ⟨b, off + i, none⟩ = some (.string (nsAt ns i)))
theorem NRow.below {w w' : World} {a : Option Addr} {n : Nat} {ns : List ByteArray} (h : NRow w a n ns) (hb : Below w.heap.size w w') : NRow w' a n ns := by
 obtain ⟨h1, h2, h3, h4⟩ := h
 refine ⟨h1, h2, h3, fun hn => ?_⟩
 obtain ⟨b, off, ha, hlt, hc⟩ := h4 hn
 refine ⟨b, off, ha, Nat.lt_of_lt_of_le hlt hb.size, fun i hi => ?_⟩
 rw [hb.cell (p := ⟨b, off + i, none⟩) hlt]; exact hc i hi
def IdxRel (ns : List ByteArray) (u : ByteArray) (w : World) (v : Value) (wr : World) : Prop :=
 ∃ k : Nat, v = .int .i64 (k : Int) ∧ k ≤ ns.length ∧ inN (ns.take k) u = false ∧ wr = w
theorem index_any (a : Option Addr) (n cap : Nat) (ns : List ByteArray) (u : ByteArray) (w : World) (hr : NRow w a n ns) :
  Calls Tryz.prog 105 #[.slice a n cap, .string u] w fun e w' => (∃ z : Int, e = .returned (.int .i64 z) ∧ decide (0 ≤ z) = inN ns u) ∧ w' = w := by
 have HR := qh hr
 have hl := hr.1
 have n1 : (n : Int) ≤ 9223372036854775807 := by have := hr.2.1; omega
 clear hr
 go_enter Tryz.func105, Tryz.ntmps105
 go_wp2_with fail
 go_loopw [8] (IdxRel ns u w) (fun v _ => n - (intOf v).toNat)
 case atStart => exact ⟨0, rfl, by omega, rfl, rfl⟩
 case round =>
  obtain ⟨k, rfl, hk, hno, rfl⟩ := hrel
  by_cases hlt : k < n
  ·have dl : decide ((k : Int) < (n : Int)) = true := decide_eq_true (by omega)
   obtain ⟨b, off, rfl, hb, hc⟩ := HR.out.2.2.2 (by omega)
   have x0 := hc k hlt
   have k1 : (0 : Int) ≤ (k : Int) := by omega
   have k2 : (k : Int) < (n : Int) := by omega
   have HT := qh (inN_take (u := u) (by omega : k < ns.length))
   have HY := qh (fun h => inN_yes (u := u) (by omega : k < ns.length) h)
   have HNO := qh hno
   rw [hno, Bool.false_or] at HT
   clear hc hno
   generalize nsAt ns k = s at *
   cases he : (u.toList == s.toList)
   ·have he2 : (s.toList == u.toList) = false := by rw [beq_swap]; exact he
    go_wp2_with fail
    go_roundw
    case rel => exact ⟨k + 1, by first | rfl | (congr 1; omega), by omega, by rw [HT.out]; exact he2, rfl⟩
    case measure => simp [intOf]; omega
   ·have he2 : (s.toList == u.toList) = true := by rw [beq_swap]; exact he
    go_wp2_with fail
    go_ret
    exact ⟨⟨k, rfl, by rw [HY.out he2, decide_eq_true (by omega)]⟩, rfl⟩
  ·have hkn : ¬ (k : Int) < (n : Int) := by omega
   have HE : Hid (inN ns u = false) := qh (by rw [← hno, List.take_of_length_le (by omega)])
   clear hno
   go_wp2_with fail
   go_ret
   exact ⟨⟨-1, rfl, by rw [HE.out]; rfl⟩, rfl⟩
theorem contains_any (a : Option Addr) (n cap : Nat) (ns : List ByteArray) (u : ByteArray) (w : World) (hr : NRow w a n ns) :
  Calls Tryz.prog 72 #[.slice a n cap, .string u] w fun e w' => e = .returned (.bool (inN ns u)) ∧ w' = w := by
 have H := qh (index_any a n cap ns u w hr)
 clear hr
 go_enter Tryz.func72, Tryz.ntmps72
 go_wp2_with (go_at_call 105; refine H.out.mono ?_; rintro e w' ⟨⟨z, rfl, hz⟩, rfl⟩; have HZ := qh hz; clear hz)
 go_ret
 exact ⟨by rw [← HZ.out]; rfl, rfl⟩
def stayB (ns : List ByteArray) (without : Bool) (u : ByteArray) : Bool := bif without then (!(u.toList == (⟨#[95, 95, 110, 97, 109, 101, 95, 95]⟩ : ByteArray).toList) && !inN ns u) else inN ns u
theorem stays_any (a : Option Addr) (n cap : Nat) (ns : List ByteArray) (u : ByteArray) (without : Bool) (w : World) (hr : NRow w a n ns) :
  Calls Tryz.prog 102 #[.string u, .slice a n cap, .bool without] w fun e w' => e = .returned (.bool (stayB ns without u)) ∧ w' = w := by
 have H := qh (fun w hr => contains_any a n cap ns u w hr)
 have HR := qh hr
 clear hr
 unfold stayB
 cases without
 ·go_enter Tryz.func102, Tryz.ntmps102
  go_wp2_with (go_at_call 72; refine (H.out _ HR.out).mono ?_; rintro e w' ⟨rfl, rfl⟩)
  go_ret
  exact ⟨rfl, rfl⟩
 ·cases hm : (u.toList == (⟨#[95, 95, 110, 97, 109, 101, 95, 95]⟩ : ByteArray).toList)
  ·have hm2 : (u.toList == [95, 95, 110, 97, 109, 101, 95, 95]) = false := by rw [show (⟨#[95, 95, 110, 97, 109, 101, 95, 95]⟩ : ByteArray).toList = [95, 95, 110, 97, 109, 101, 95, 95] by rw [ByteArray.toList_eq]] at hm; exact hm
   generalize inN ns u = i at *
   cases i
   all_goals
    go_enter Tryz.func102, Tryz.ntmps102
    go_wp2_with (go_at_call 72; refine (H.out _ HR.out).mono ?_; rintro e w' ⟨rfl, rfl⟩)
    go_ret
    exact ⟨rfl, rfl⟩
  ·have hm2 : (u.toList == [95, 95, 110, 97, 109, 101, 95, 95]) = true := by rw [show (⟨#[95, 95, 110, 97, 109, 101, 95, 95]⟩ : ByteArray).toList = [95, 95, 110, 97, 109, 101, 95, 95] by rw [ByteArray.toList_eq]] at hm; exact hm
   go_enter Tryz.func102, Tryz.ntmps102
   go_wp2_with fail
   go_ret
   exact ⟨rfl, rfl⟩
end Go.Proofs.YtmmfjknnbkcniaaGreatDoor
namespace Go.Proofs.YtmmfjknnbkcniaaGreatDoor
open Go.Fl Go.Rel Go.RowKit
def OwnB (B : Nat) (w : World) (v : Value) (l : List UInt8) : Prop := w.ownsRow B 5 1 v l.length (Lib.byteCells l)
theorem ownB_nil (B : Nat) (w : World) : OwnB B w (.slice none 0 0) [] := World.ownsRow_nil _ _ _ _
theorem OwnB.drewN {B : Nat} {w : World} {v : Value} {l : List UInt8} (h : OwnB B w v l) (n : Nat) : OwnB B (w.drewN n) v l := h
theorem OwnB.alloc {B : Nat} {w : World} {v : Value} {l : List UInt8} (h : OwnB B w v l) (o : Obj) : OwnB B (w.alloc o) v l := World.ownsRow.alloc h o
theorem OwnB.below {B : Nat} {w0 w w' : World} {v : Value} {l : List UInt8} (h : OwnB B w v l) (hb : Below B w0 w) (hg : w.grownBy w' v.ownBlock) (hB : B ≤ w.heap.size) : Below B w0 w' :=
 hb.grown hg hB fun k hk => (World.ownsRow.lt h k hk).1
theorem info_b : (Tryz.prog.info? 5).map (fun i => (i.zero, i.size, i.bytes)) = some (some (.int .u8 0), 1, 1) := by kernel_rfl
theorem wpList_append_b {ops : Array Oper} {rest : List Oper} {o : Oper} {a : Act} {Q : Exit → Act → World → Prop} {w : World} (hgd : o.guard = none) (s x : Operand)
  (ho : o.op = .call { callee := .builtin .append, args := #[s, x], argTypes := #[84, 84] })
  (B : Nat) (v : Value) (l : List UInt8) (hs : a.eval s = v) (hown : OwnB B w v l) (b c : Nat) (ys : List UInt8) (m : Nat) (hm : ys.length = m) (hx : a.eval x = .slice (some ⟨b, 0, none⟩) m c)
  (hy : ∀ j y, ys[j]? = some y → w.cell? ⟨b, j, none⟩ = some (.int .u8 (y.toNat : Int)))
  (hb : l.length + m ≤ 140737488355328) (hB : B ≤ w.heap.size)
  (h : ∀ v' w', OwnB B w' v' (l ++ ys) → w.grownBy w' v.ownBlock → (v'.ownBlock = v.ownBlock ∨ v'.ownBlock = some w.heap.size) → wpList Tryz.prog ops Q rest (a.put o.dst v') w') :
  wpList Tryz.prog ops Q (o :: rest) a w := by
 obtain ⟨i0, hi, hz0, hz1, hz2⟩ := info_parts info_b
 subst hm
 refine wpList_append_own_at w hgd s x 84 ho B 5 i0 (.int .u8 0) 1 1 Tryz.underlying84 hi hz0 hz1 hz2 rfl (by decide) v _ _ hs hown ⟨b, 0, none⟩ ys.length c (Lib.byteCells ys) hx (by rw [Lib.byteCells_length, Nat.mul_one]) ?_ ?_ ?_ ?_ hB ?_
 ·intro j u hj
  rw [show (⟨b, 0, none⟩ : Addr).add j = ⟨b, j, none⟩ by unfold Addr.add; split <;> simp_all]
  unfold Lib.byteCells at hj
  rw [List.getElem?_map] at hj
  obtain ⟨y, hy1, hy2⟩ := Option.map_eq_some_iff.1 hj
  rw [← hy2]
  exact hy j y hy1
 ·intro u hu
  unfold Lib.byteCells at hu
  obtain ⟨y, _, rfl⟩ := List.mem_map.1 hu
  rfl
 ·unfold maxLen; omega
 ·omega
 ·intro v' w' h1 h2 _ h4
  refine h v' w' ?_ h2 h4
  unfold OwnB
  rw [List.length_append, Lib.byteCells_append]
  exact h1
theorem byte_one (w : World) (z : Int) (y : UInt8) (t : TypeId) (hz : z = (y.toNat : Int)) : ∀ j u, [y][j]? = some u → (w.alloc (.cells #[.int .u8 z] t)).cell? ⟨w.heap.size, j, none⟩ = some (.int .u8 (u.toNat : Int)) := by
 intro j u hj
 match j, hj with
 | 0, hj => simp at hj; subst hj; rw [World.cell?_alloc_at _ _ _ _ rfl, hz]; rfl
theorem OwnB.text {B : Nat} {w : World} {v : Value} {l : List UInt8} (h : OwnB B w v l) (hn : l ≠ []) : (convert 84 9 v).run Tryz.prog w = .ok (.string ⟨l.toArray⟩) w := by
 have hpos : 0 < l.length := List.length_pos_iff.2 hn
 unfold OwnB at h
 rcases h.2 with ⟨-, h0⟩ | ⟨g, cap, cur, rfl, -, -, -, -, -, -⟩
 ·omega
 ·exact run_convert_bytes_back (P := Tryz.prog) w 84 9 5 ⟨g, 0, none⟩ cap l Tryz.underlying84 Tryz.underlying5 Tryz.underlying9 (fun j hj => h.cells (g := g) rfl j _ (by simp [Lib.byteCells, hj]))
theorem OwnB.form {B : Nat} {w : World} {v : Value} {l : List UInt8} (h : OwnB B w v l) (hn : l ≠ []) : ∃ g cap, v = .slice (some ⟨g, 0, none⟩) l.length cap ∧ B ≤ g ∧ l.length ≤ cap ∧ ∀ j (hj : j < l.length), w.cell? ⟨g, j, none⟩ = some (.int .u8 (l[j].toNat : Int)) := by
 have hpos : 0 < l.length := List.length_pos_iff.2 hn
 have h0 := h
 unfold OwnB at h
 obtain ⟨h1, h2⟩ := h
 rcases h2 with ⟨-, h0⟩ | ⟨g, cap, cur, rfl, hg, hb, hlc, _⟩
 ·omega
 ·refine ⟨g, cap, rfl, by omega, by omega, fun j hj => ?_⟩
  have := World.ownsRow.cells h0 (g := g) rfl j (.int .u8 (l[j].toNat : Int)) (by simp [Lib.byteCells, hj])
  rw [show (⟨g, 0, none⟩ : Addr).add j = ⟨g, j, none⟩ by unfold Addr.add; split <;> simp_all] at this
  exact this
end Go.Proofs.YtmmfjknnbkcniaaGreatDoor
namespace Go.Proofs
open Go.Shelf
def Tryz.laysM176_ren : Go.Shelf.Ren := ⟨fun | 176 => 103 | 249 => 137 | 288 => 155 | 283 => 163 | 284 => 164 | 285 => 165 | 286 => 166 | 129 => 170 | 317 => 169 | 318 => 171 | 319 => 172 | 320 => 173 | 337 => 176 | 338 => 177 | n => n, fun | 37 => 84 | 2 => 2 | 3 => 3 | 53 => 82 | 4 => 4 | 9 => 9 | 171 => 134 | 0 => 0 | 173 => 137 | 212 => 141 | 51 => 142 | 5 => 5 | 20 => 20 | 213 => 143 | 46 => 122 | 232 => 146 | 233 => 147 | n => n, fun | 17 => 1 | 18 => 2 | 19 => 3 | n => n⟩
theorem Tryz.laysM176 : Go.Proofs.LaysM.n176 Tryz.prog Tryz.laysM176_ren := {
 mixed := by kernel_rfl
 f129 := Tryz.func170.trans (congrArg some (by kernel_rfl))
 f176 := Tryz.func103.trans (congrArg some (by kernel_rfl))
 f249 := Tryz.func137.trans (congrArg some (by kernel_rfl))
 f283 := Tryz.func163.trans (congrArg some (by kernel_rfl))
 f284 := Tryz.func164.trans (congrArg some (by kernel_rfl))
 f285 := Tryz.func165.trans (congrArg some (by kernel_rfl))
 f286 := Tryz.func166.trans (congrArg some (by kernel_rfl))
 f288 := Tryz.func155.trans (congrArg some (by kernel_rfl))
 f317 := Tryz.func169.trans (congrArg some (by kernel_rfl))
 f318 := Tryz.func171.trans (congrArg some (by kernel_rfl))
 f319 := Tryz.func172.trans (congrArg some (by kernel_rfl))
 f320 := Tryz.func173.trans (congrArg some (by kernel_rfl))
 f337 := Tryz.func176.trans (congrArg some (by kernel_rfl))
 f338 := Tryz.func177.trans (congrArg some (by kernel_rfl))
 t0 := Tryz.underlying0
 a0 := Tryz.isAgg0
 z0 := Tryz.sizeOf0
 v0 := Tryz.zeroValue0
 t2 := Tryz.underlying2
 a2 := Tryz.isAgg2
 z2 := Tryz.sizeOf2
 v2 := Tryz.zeroValue2
 t3 := Tryz.underlying3
 a3 := Tryz.isAgg3
 z3 := Tryz.sizeOf3
 v3 := Tryz.zeroValue3
 t4 := Tryz.underlying4
 a4 := Tryz.isAgg4
 z4 := Tryz.sizeOf4
 v4 := Tryz.zeroValue4
 t5 := Tryz.underlying5
 a5 := Tryz.isAgg5
 z5 := Tryz.sizeOf5
 v5 := Tryz.zeroValue5
 t9 := Tryz.underlying9
 a9 := Tryz.isAgg9
 z9 := Tryz.sizeOf9
 v9 := Tryz.zeroValue9
 t20 := Tryz.underlying20
 a20 := Tryz.isAgg20
 z20 := Tryz.sizeOf20
 v20 := Tryz.zeroValue20
 t37 := Tryz.underlying84
 a37 := Tryz.isAgg84
 z37 := Tryz.sizeOf84
 v37 := Tryz.zeroValue84
 t46 := Tryz.underlying122
 a46 := Tryz.isAgg122
 z46 := Tryz.sizeOf122
 v46 := Tryz.zeroValue122
 t51 := Tryz.underlying142
 a51 := Tryz.isAgg142
 z51 := Tryz.sizeOf142
 v51 := Tryz.zeroValue142
 t53 := Tryz.underlying82
 a53 := Tryz.isAgg82
 z53 := Tryz.sizeOf82
 v53 := Tryz.zeroValue82
 t171 := Tryz.underlying134
 a171 := Tryz.isAgg134
 z171 := Tryz.sizeOf134
 v171 := Tryz.zeroValue134
 t173 := Tryz.underlying137
 a173 := Tryz.isAgg137
 z173 := Tryz.sizeOf137
 v173 := Tryz.zeroValue137
 t212 := Tryz.underlying141
 a212 := Tryz.isAgg141
 z212 := Tryz.sizeOf141
 v212 := Tryz.zeroValue141
 t213 := Tryz.underlying143
 a213 := Tryz.isAgg143
 z213 := Tryz.sizeOf143
 t232 := Tryz.underlying146
 a232 := Tryz.isAgg146
 z232 := Tryz.sizeOf146
 v232 := Tryz.zeroValue146
 t233 := Tryz.underlying147
 a233 := Tryz.isAgg147
 z233 := Tryz.sizeOf147
 v233 := Tryz.zeroValue147
 g17 := by kernel_rfl
 g18 := by kernel_rfl
 g19 := by kernel_rfl
 i0 := by kernel_rfl
 i2 := by kernel_rfl
 i3 := by kernel_rfl
 i4 := by kernel_rfl
 i5 := by kernel_rfl
 i9 := by kernel_rfl
 i20 := by kernel_rfl
 i37 := by kernel_rfl
 i46 := by kernel_rfl
 i51 := by kernel_rfl
 i53 := by kernel_rfl
 i171 := by kernel_rfl
 i173 := by kernel_rfl
 i212 := by kernel_rfl
 i232 := by kernel_rfl
 i233 := by kernel_rfl
 m17 := by kernel_rfl
 m18 := by kernel_rfl
 m19 := by kernel_rfl }
open Go.RowKit Go.Sort Go.Lib in
theorem Tryz.strconv_AppendInt_10 (B n : Nat) (i : Int) (h0 : -9223372036854775808 ≤ i) (h1 : i ≤ 9223372036854775807) (sv : Value) (xs : List Value) (w : World) (hown : w.ownsRow B 5 1 sv n xs) (hBw : B ≤ w.heap.size) (hlim : n + 21 ≤ 140737488355328) (htab : Lib.TabBelow Tryz.prog B w "internal/strconv.uint64pow10" .u64 Lib.pow10Tab) :
  Calls Tryz.prog 103 #[sv, .int .i64 i, .int .i64 10] w fun e w' => ∃ v', e = .returned v' ∧ w'.ownsRow B 5 1 v' (n + (Lib.itoa i).length) (xs ++ Lib.byteCells (Lib.itoa i)) ∧ Below B w w' ∧ Lib.OthersKept 5 none w w' := Any.strconv_AppendInt_10 Tryz.laysM176 B n i h0 h1 sv xs w hown hBw hlim htab
end Go.Proofs
