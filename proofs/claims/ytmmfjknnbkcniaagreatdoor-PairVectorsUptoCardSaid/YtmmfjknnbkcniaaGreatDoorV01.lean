/- Floats as canonical words: every NaN is one word; the operations on words up to that; the walk's laws for the float operations, whose NaN the model draws. A region that draws its order, whose operations' values may hang on the world (a NaN drawn, a callee that answers up to a relation): one walk in the order of the text serves every order. -/
import Derived.WalkLawsBesides
import Derived.WalkKit
import Derived.Deep.Draws
import Derived.Below
import Derived.Lib.Hide
import Derived.Deep.Quiet
import Derived.Deep.QuietTactic
import Derived.BigQuiet
set_option maxHeartbeats 64000000
set_option maxRecDepth 100000
namespace Go
theorem qh {p : Prop} (h : p) : RowKit.Hid p := Lib.hid h
end Go
namespace Go.Fl
def nanc : Nat := 9221120237041090561
def isN (b : Nat) : Bool := (Ieee.double.read b).isNaN
def cn (b : Nat) : Nat := if isN b then nanc else b
def fop (op : BinOp) (x y : Nat) : Nat := (floatBits op .f64 x y).getD nanc
def fadd (x y : Nat) : Nat := (Ieee.double.add x y).getD nanc
def fsub (x y : Nat) : Nat := (Ieee.double.sub x y).getD nanc
def fmul (x y : Nat) : Nat := (Ieee.double.mul x y).getD nanc
def fdiv (x y : Nat) : Nat := (Ieee.double.div x y).getD nanc
def ford (x y : Nat) : Option Ordering := Ieee.double.order x y
theorem ordQ {a b : Nat} {o : Ordering} {c : Bool} (h : (ford a b == some o) = c) : (FloatKind.f64.format.order a b == some o) = c := h
theorem isN_nanc : isN nanc = true := by decide +kernel
theorem read_word_infRung_le (neg : Bool) {rung : Nat} (h : rung ≤ Ieee.double.infRung) : ((Ieee.double.read (Ieee.double.word neg rung)).isNaN) = false := by
 have hI : Ieee.double.infRung = 9218868437227405312 := by decide +kernel
 have hS : Ieee.double.signWeight = 9223372036854775808 := by decide +kernel
 have hmod : Ieee.double.word neg rung % Ieee.double.signWeight = rung := by
  unfold Ieee.Format.word
  rw [hS]; rw [hI] at h
  split <;> omega
 unfold Ieee.Format.read
 dsimp only
 rw [hmod]
 by_cases h1 : rung < Ieee.double.binade
 ·rw [if_pos h1]; rfl
 ·rw [if_neg h1]
  by_cases h2 : rung < Ieee.double.infRung
  ·rw [if_pos h2]; rfl
  ·rw [if_neg h2, if_pos (by omega)]; rfl
theorem write_not_nan (d : Ieee.Datum) (h : d.isNaN = false) : isN (Ieee.double.write d) = false := by
 unfold isN
 cases d with
 | number s m e =>
  show ((Ieee.double.read (Ieee.double.nearest s m e)).isNaN) = false
  unfold Ieee.Format.nearest
  split
  ·exact read_word_infRung_le s (Nat.zero_le _)
  ·exact read_word_infRung_le s (Nat.min_le_right _ _)
 | infinity s => exact read_word_infRung_le s (Nat.le_refl _)
 | nan s f => cases h
theorem map_write_notN {d : Option Ieee.Datum} {r : Nat} (hd : ∀ x, d = some x → x.isNaN = false) (h : d.map Ieee.double.write = some r) : isN r = false := by
 cases d with
 | none => cases h
 | some x => cases h; exact write_not_nan x (hd x rfl)
theorem sum_notN {a b x : Ieee.Datum} (h : a.sum b = some x) : x.isNaN = false := by
 cases a <;> cases b <;> simp [Ieee.Datum.sum] at h
 ·subst h; rfl
 ·subst h; rfl
 ·subst h; rfl
 ·obtain ⟨_, h⟩ := h; subst h; rfl
theorem product_notN {a b x : Ieee.Datum} (h : a.product b = some x) : x.isNaN = false := by
 cases a <;> cases b <;> simp [Ieee.Datum.product] at h
 ·subst h; rfl
 ·obtain ⟨_, h⟩ := h; subst h; rfl
 ·obtain ⟨_, h⟩ := h; subst h; rfl
 ·subst h; rfl
theorem quotient_notN {k : Nat} {a b x : Ieee.Datum} (h : a.quotient k b = some x) : x.isNaN = false := by
 cases a <;> cases b <;> simp only [Ieee.Datum.quotient] at h
 all_goals first | (cases h; done) | skip
 ·split at h
  ·split at h
   ·cases h
   ·cases h; rfl
  ·cases h; rfl
 ·cases h; rfl
 ·cases h; rfl
theorem floatBits_notN {op : BinOp} {x y r : Nat} (h : floatBits op .f64 x y = some r) : isN r = false := by
 cases op <;> simp only [floatBits] at h <;> first | (cases h; done) | skip
 ·exact map_write_notN (fun _ hx => sum_notN hx) h
 ·exact map_write_notN (fun _ hx => sum_notN hx) h
 ·exact map_write_notN (fun _ hx => product_notN hx) h
 ·exact map_write_notN (fun _ hx => quotient_notN hx) h
theorem cn_of_notN {b : Nat} (h : isN b = false) : cn b = b := by unfold cn; rw [h]; rfl
theorem cn_of_N {b : Nat} (h : isN b = true) : cn b = nanc := by unfold cn; rw [h]; rfl
theorem cn_cn (b : Nat) : cn (cn b) = cn b := by
 cases h : isN b
 ·rw [cn_of_notN h, cn_of_notN h]
 ·rw [cn_of_N h, cn_of_N isN_nanc]
theorem isN_cn (b : Nat) : isN (cn b) = isN b := by
 cases h : isN b
 ·rw [cn_of_notN h, h]
 ·rw [cn_of_N h, isN_nanc]
theorem drawn_isN (t : Nat) : isN (t % 2 * 2 ^ 63 + 0x7ff0000000000000 + 1 + t / 2 % (2 ^ 52 - 1)) = true := by
 have hB : Ieee.double.binade = 4503599627370496 := by decide +kernel
 have hI : Ieee.double.infRung = 9218868437227405312 := by decide +kernel
 have hS : Ieee.double.signWeight = 9223372036854775808 := by decide +kernel
 have h1 : t / 2 % (2 ^ 52 - 1) < 2 ^ 52 - 1 := Nat.mod_lt _ (by decide)
 generalize t / 2 % (2 ^ 52 - 1) = k at h1
 have h2 : t % 2 < 2 := Nat.mod_lt _ (by decide)
 generalize t % 2 = j at h2
 have hmod : (j * 2 ^ 63 + 0x7ff0000000000000 + 1 + k) % Ieee.double.signWeight = 0x7ff0000000000001 + k := by
  rw [hS]; omega
 unfold isN Ieee.Format.read
 simp only [hmod, hB, hI]
 rw [if_neg (by omega), if_neg (by omega), if_neg (by omega)]
 rfl
theorem cut_isN (x y t : Nat) : isN (Question.cut (.nanBits .f64 x y) t) = true := drawn_isN t
theorem read_nan {x : Nat} (h : isN x = true) : ∃ s t, Ieee.double.read x = .nan s t := by
 unfold isN at h
 cases hr : Ieee.double.read x with
 | nan s t => exact ⟨s, t, rfl⟩
 | number => rw [hr] at h; cases h
 | infinity => rw [hr] at h; cases h
theorem floatBits_N1 (op : BinOp) {x : Nat} (y : Nat) (h : isN x = true) : floatBits op .f64 x y = none := by
 obtain ⟨s, t, hr⟩ := read_nan h
 cases op <;> first | rfl | skip
 all_goals (simp only [floatBits, FloatKind.format, Ieee.Format.add, Ieee.Format.sub, Ieee.Format.mul, Ieee.Format.div, hr]; rfl)
theorem floatBits_N2 (op : BinOp) (x : Nat) {y : Nat} (h : isN y = true) : floatBits op .f64 x y = none := by
 obtain ⟨s, t, hr⟩ := read_nan h
 cases op <;> first | rfl | skip
 all_goals (simp only [floatBits, FloatKind.format, Ieee.Format.add, Ieee.Format.sub, Ieee.Format.mul, Ieee.Format.div, hr]; cases Ieee.double.read x <;> rfl)
theorem fop_cn (op : BinOp) (x y : Nat) : fop op (cn x) (cn y) = fop op x y := by
 unfold fop
 have h1 : floatBits op .f64 (cn x) (cn y) = floatBits op .f64 x (cn y) := by
  cases h : isN x
  ·rw [cn_of_notN h]
  ·rw [floatBits_N1 op _ h, floatBits_N1 op _ (by rw [isN_cn, h])]
 have h2 : floatBits op .f64 x (cn y) = floatBits op .f64 x y := by
  cases h : isN y
  ·rw [cn_of_notN h]
  ·rw [floatBits_N2 op _ h, floatBits_N2 op _ (by rw [isN_cn, h])]
 rw [h1, h2]
theorem ford_N1 {x : Nat} (y : Nat) (h : isN x = true) : ford x y = none := by
 obtain ⟨s, t, hr⟩ := read_nan h
 simp only [ford, Ieee.Format.order, hr]; rfl
theorem ford_N2 (x : Nat) {y : Nat} (h : isN y = true) : ford x y = none := by
 obtain ⟨s, t, hr⟩ := read_nan h
 simp only [ford, Ieee.Format.order, hr]; cases Ieee.double.read x <;> rfl
theorem ford_cn (x y : Nat) : ford (cn x) (cn y) = ford x y := by
 have h1 : ford (cn x) (cn y) = ford x (cn y) := by
  cases h : isN x
  ·rw [cn_of_notN h]
  ·rw [ford_N1 _ h, ford_N1 _ (by rw [isN_cn, h])]
 have h2 : ford x (cn y) = ford x y := by
  cases h : isN y
  ·rw [cn_of_notN h]
  ·rw [ford_N2 _ h, ford_N2 _ (by rw [isN_cn, h])]
 rw [h1, h2]
theorem ford_cn1 (x y : Nat) : ford (cn x) y = ford x y := by
 rw [← ford_cn (cn x) y, cn_cn, ford_cn]
theorem ford_self {x : Nat} (h : isN x = false) : ford x x = some .eq := by
 unfold isN at h
 unfold ford Ieee.Format.order
 cases hr : Ieee.double.read x with
 | nan s t => rw [hr] at h; cases h
 | infinity s => cases s <;> rfl
 | number s m e =>
  simp only [Ieee.Datum.order]
  exact congrArg some (by simp [Std.ReflCmp.compare_self])
theorem ne_self (x : Nat) : (ford x x != some .eq) = isN x := by
 cases h : isN x
 ·rw [ford_self h]; rfl
 ·rw [ford_N1 _ h]; rfl
theorem cn_eq_iff (x y : Nat) : cn x = cn y ↔ (isN x = true ∧ isN y = true) ∨ x = y := by
 constructor
 ·intro h
  cases hx : isN x <;> cases hy : isN y
  ·rw [cn_of_notN hx, cn_of_notN hy] at h; exact .inr h
  ·rw [cn_of_notN hx, cn_of_N hy] at h; rw [h, isN_nanc] at hx; cases hx
  ·rw [cn_of_N hx, cn_of_notN hy] at h; rw [← h, isN_nanc] at hy; cases hy
  ·exact .inl ⟨rfl, rfl⟩
 ·rintro (⟨hx, hy⟩ | h)
  ·rw [cn_of_N hx, cn_of_N hy]
  ·rw [h]
section
variable {P : Program}
theorem run_fop (w : World) (op : BinOp) (hop : op = .add ∨ op = .sub ∨ op = .mul ∨ op = .quo) (t : TypeId) (x y : Nat) :
  ∃ r n, (binOp op t (.float .f64 x) (.float .f64 y)).run P w = .ok (.float .f64 r) (w.drewN n) ∧ cn r = fop op x y := by
 cases h : floatBits op .f64 x y with
 | some r =>
  exact ⟨r, 0, run_float_arith w op t .f64 x y r h, by rw [cn_of_notN (floatBits_notN h)]; simp [fop, h]⟩
 | none =>
  refine ⟨Question.cut (.nanBits .f64 x y) (w.tape w.drawn (.nanBits .f64 x y)), 1, ?_, ?_⟩
  ·have hq : Question.forced (.nanBits .f64 x y) = false := rfl
   rcases hop with rfl | rfl | rfl | rfl <;> simp only [floatBits] at h <;>
    simp [binOp, Op.floatArith, h, choose, Sem.run, Question.forced, World.drewN]
  ·rw [cn_of_N (cut_isN x y _)]; simp [fop, h]
end
end Go.Fl
namespace Go.Rel
section
variable {P : Program} {ops : Array Oper} {C : World → Prop} {Rc : FuncId → Array Value → Value → Prop}
def okRes (P : Program) (C : World → Prop) (Rc : FuncId → Array Value → Value → Prop) : Result Next → Prop
 | .ok (.value _) w' => C w'
 | .ok .skip w' => C w'
 | .ok (.enter f args) w' => Calls P f args w' fun e w2 => ∃ v, e = .returned v ∧ Rc f args v ∧ C w2
 | _ => False
def vals (Rc : FuncId → Array Value → Value → Prop) : Result Next → Value → Prop
 | .ok (.value u) _, v => v = u
 | .ok .skip _, v => v = undef
 | .ok (.enter f args) _, v => Rc f args v
 | _, _ => False
theorem vals_some {r : Result Next} (h : okRes P C Rc r) : ∃ v, vals Rc r v := by
 cases r with
 | halt x w => exact h.elim
 | ok n w =>
  cases n <;> first | exact ⟨_, rfl⟩ | exact h.elim | skip
  rename_i f args
  obtain ⟨e, w2, fr, ⟨v, _, hv, _⟩, _⟩ := h []
  exact ⟨v, hv⟩
def relOp (P : Program) (C : World → Prop) (Rc : FuncId → Array Value → Value → Prop) (o : Oper) (a : Act) (K : Act → Prop) : Prop :=
 ∀ w, C w → okRes P C Rc ((execOp a.eval o).run P w) ∧ ∀ v, vals Rc ((execOp a.eval o).run P w) v → K (a.put o.dst v)
def relAt (P : Program) (ops : Array Oper) (C : World → Prop) (Rc : FuncId → Array Value → Value → Prop) (o : Oper) (a : Act) (K : Act → Prop) : Prop :=
 if Region.wanted o (yielded ops a.tmps) then relOp P C Rc o a K else K (a.put o.dst undef)
def wpRel (P : Program) (ops : Array Oper) (C : World → Prop) (Rc : FuncId → Array Value → Value → Prop) (Q : Act → Prop) : List Oper → Act → Prop
 | [], a => Q a
 | o :: rest, a => relAt P ops C Rc o a (wpRel P ops C Rc Q rest)
theorem relOp_mono {o : Oper} {a : Act} {K K' : Act → Prop} (h : ∀ a, K a → K' a) (hh : relOp P C Rc o a K) : relOp P C Rc o a K' :=
 fun w hw => ⟨(hh w hw).1, fun v hv => h _ ((hh w hw).2 v hv)⟩
theorem relAt_mono {o : Oper} {a : Act} {K K' : Act → Prop} (h : ∀ a, K a → K' a) (hh : relAt P ops C Rc o a K) : relAt P ops C Rc o a K' := by
 unfold relAt at *
 split
 ·rename_i hw; rw [if_pos hw] at hh; exact relOp_mono h hh
 ·rename_i hw; rw [if_neg hw] at hh; exact h _ hh
theorem relAt_swap {x y : Oper} (hap : x.apart ops y = true) (hsx : ∀ cs b, x.op ≠ .select cs b) (hsy : ∀ cs b, y.op ≠ .select cs b)
  {K : Act → Prop} {a : Act} (h : relAt P ops C Rc x a (fun a1 => relAt P ops C Rc y a1 K)) :
  relAt P ops C Rc y a (fun a1 => relAt P ops C Rc x a1 K) := by
 obtain ⟨h1, h2, h3⟩ := Oper.apart_spec hap
 have wy : ∀ u, Region.wanted y (yielded ops (a.put x.dst u).tmps) = Region.wanted y (yielded ops a.tmps) := fun u => wanted_put y a x.dst u h1
 have wx : ∀ u, Region.wanted x (yielded ops (a.put y.dst u).tmps) = Region.wanted x (yielded ops a.tmps) := fun u => wanted_put x a y.dst u h3
 have ey : ∀ u, execOp (a.put x.dst u).eval y = execOp a.eval y := fun u => execOp_put y hsy a x.dst u h1
 have ex : ∀ u, execOp (a.put y.dst u).eval x = execOp a.eval x := fun u => execOp_put x hsx a y.dst u h3
 have comm : ∀ u v, (a.put x.dst u).put y.dst v = (a.put y.dst v).put x.dst u := fun u v => Act.put_comm a u v h2
 have hY : ∀ u, relAt P ops C Rc y (a.put x.dst u) K = if Region.wanted y (yielded ops a.tmps) then relOp P C Rc y (a.put x.dst u) K else K ((a.put x.dst u).put y.dst undef) := fun u => by
  unfold relAt; rw [wy]
 have hX : ∀ u, relAt P ops C Rc x (a.put y.dst u) K = if Region.wanted x (yielded ops a.tmps) then relOp P C Rc x (a.put y.dst u) K else K ((a.put y.dst u).put x.dst undef) := fun u => by
  unfold relAt; rw [wx]
 by_cases hx : Region.wanted x (yielded ops a.tmps) = true
 ·unfold relAt at h
  rw [if_pos hx] at h
  have h : ∀ w, C w → okRes P C Rc ((execOp a.eval x).run P w) ∧ ∀ v, vals Rc ((execOp a.eval x).run P w) v → relAt P ops C Rc y (a.put x.dst v) K := h
  by_cases hy : Region.wanted y (yielded ops a.tmps) = true
  ·unfold relAt
   rw [if_pos hy]
   intro w' hw'
   obtain ⟨u0, hu0⟩ := vals_some (h w' hw').1
   have hok := (h w' hw').2 u0 hu0
   rw [hY, if_pos hy] at hok
   have hok := (hok w' hw').1
   rw [ey] at hok
   refine ⟨hok, fun v hv => ?_⟩
   show relAt P ops C Rc x (a.put y.dst v) K
   rw [hX, if_pos hx]
   intro w hw
   rw [ex]
   refine ⟨(h w hw).1, fun u hu => ?_⟩
   have h5 := (h w hw).2 u hu
   rw [hY, if_pos hy] at h5
   have h6 := (h5 w' hw').2 v (by rw [ey]; exact hv)
   rw [comm] at h6
   exact h6
  ·unfold relAt
   rw [if_neg hy]
   show relAt P ops C Rc x (a.put y.dst undef) K
   rw [hX, if_pos hx]
   intro w hw
   rw [ex]
   refine ⟨(h w hw).1, fun u hu => ?_⟩
   have h5 := (h w hw).2 u hu
   rw [hY, if_neg hy, comm] at h5
   exact h5
 ·unfold relAt at h
  rw [if_neg hx] at h
  have h : relAt P ops C Rc y (a.put x.dst undef) K := h
  rw [hY] at h
  by_cases hy : Region.wanted y (yielded ops a.tmps) = true
  ·unfold relAt
   rw [if_pos hy]
   rw [if_pos hy] at h
   intro w hw
   have h5 := h w hw
   rw [ey] at h5
   refine ⟨h5.1, fun v hv => ?_⟩
   show relAt P ops C Rc x (a.put y.dst v) K
   rw [hX, if_neg hx]
   have h6 := h5.2 v hv
   rw [comm] at h6
   exact h6
  ·unfold relAt
   rw [if_neg hy]
   show relAt P ops C Rc x (a.put y.dst undef) K
   rw [hX, if_neg hx]
   rw [if_neg hy, comm] at h
   exact h
/-! ### Lists of numbers -/
def wpRelI (P : Program) (ops : Array Oper) (C : World → Prop) (Rc : FuncId → Array Value → Value → Prop) (Q : Act → Prop) : List Nat → Act → Prop
 | [], a => Q a
 | i :: rest, a => match ops[i]? with
  | none => wpRelI P ops C Rc Q rest a
  | some o => relAt P ops C Rc o a (wpRelI P ops C Rc Q rest)
theorem wpRelI_bubble {Q : Act → Prop} (hsel : ∀ (j : Nat) (o : Oper) cs b, ops[j]? = some o → o.op ≠ .select cs b) {i : Nat} {oi : Oper} (hi : ops[i]? = some oi) (l2 : List Nat) :
  ∀ (l1 : List Nat) (a : Act), (∀ j ∈ l1, ∀ oj, ops[j]? = some oj → oj.apart ops oi = true) →
   wpRelI P ops C Rc Q (l1 ++ i :: l2) a → wpRelI P ops C Rc Q (i :: (l1 ++ l2)) a
 | [], _, _, h => h
 | j :: l1, a, hap, h => by
  have ih : ∀ a, (∀ j ∈ l1, ∀ oj, ops[j]? = some oj → oj.apart ops oi = true) → wpRelI P ops C Rc Q (l1 ++ i :: l2) a → wpRelI P ops C Rc Q (i :: (l1 ++ l2)) a := wpRelI_bubble hsel hi l2 l1
  cases hj : ops[j]? with
  | none =>
   simp only [List.cons_append, wpRelI, hj] at h ⊢
   have := ih a (fun j' hj' => hap j' (List.mem_cons_of_mem _ hj')) h
   exact this
  | some oj =>
   simp only [List.cons_append, wpRelI, hj] at h ⊢
   simp only [hi]
   have h' : relAt P ops C Rc oj a (fun a1 => relAt P ops C Rc oi a1 (wpRelI P ops C Rc Q (l1 ++ l2))) :=
    relAt_mono (fun a1 h1 => by
     have := ih a1 (fun j' hj' => hap j' (List.mem_cons_of_mem _ hj')) h1
     simpa only [wpRelI, hi] using this) h
   exact relAt_swap (hap j (List.mem_cons_self ..) oj hj) (hsel j oj · · hj) (hsel i oi · · hi) h'
def anc (ops : Array Oper) : Nat → Nat → Nat → Bool
 | 0, _, _ => false
 | n + 1, i, j => match ops[i]? with
  | none => false
  | some o => o.after.toList.any (fun e => Region.binds .any e && e.on == j) || o.after.toList.any (fun e => Region.binds .any e && anc ops n e.on j)
def fine (ops : Array Oper) : Bool :=
 (List.range ops.size).all fun i => match ops[i]? with
  | none => true
  | some o => o.after.toList.all (fun e => !Region.binds .any e || e.on < i) &&
   (match o.op with | .select .. => false | _ => true) &&
   (List.range i).all fun j => match ops[j]? with
    | none => true
    | some oj => oj.apart ops o || anc ops ops.size i j
theorem fine_at (h : fine ops = true) {i : Nat} {o : Oper} (hi : ops[i]? = some o) :
  (∀ e ∈ o.after, Region.binds .any e = true → e.on < i) ∧ (∀ cs b, o.op ≠ .select cs b) ∧
  (∀ j oj, j < i → ops[j]? = some oj → oj.apart ops o = true ∨ anc ops ops.size i j = true) := by
 have hlt : i < ops.size := by
  rcases Nat.lt_or_ge i ops.size with h' | h'
  ·exact h'
  ·rw [Array.getElem?_eq_none h'] at hi; cases hi
 have := List.all_eq_true.1 h i (List.mem_range.2 hlt)
 simp only [hi, Bool.and_eq_true] at this
 obtain ⟨⟨t1, t2⟩, t3⟩ := this
 refine ⟨fun e he hb => ?_, ⟨fun cs b hc => (by rw [hc] at t2; cases t2), fun j oj hj hoj => ?_⟩⟩
 ·have := List.all_eq_true.1 t1 e (by simpa using he)
  simpa [hb] using this
 ·have := List.all_eq_true.1 t3 j (List.mem_range.2 hj)
  simpa [hoj] using this
def closed (ops : Array Oper) (listed : Array Bool) : Prop :=
 ∀ (i : Nat) (o : Oper), ops[i]? = some o → listed.getD i true = true → ∀ e ∈ o.after, Region.binds .any e = true → listed.getD e.on false = true
theorem closed_anc {listed : Array Bool} (hsz : listed.size = ops.size) (hc : closed ops listed) : ∀ (n i j : Nat), anc ops n i j = true → 
  (∀ o, ops[i]? = some o → ∀ e ∈ o.after, Region.binds .any e = true → listed.getD e.on false = true) → listed.getD j false = true
 | 0, _, _, h, _ => by cases h
 | n + 1, i, j, h, hi => by
  unfold anc at h
  cases ho : ops[i]? with
  | none => simp only [ho] at h; cases h
  | some o =>
   simp only [ho, Bool.or_eq_true, List.any_eq_true, Bool.and_eq_true, beq_iff_eq] at h
   rcases h with ⟨e, he, hb, hj⟩ | ⟨e, he, hb, hj⟩
   ·have := hi o ho e (by simpa using he) hb
    rwa [hj] at this
   ·have hl := hi o ho e (by simpa using he) hb
    refine closed_anc hsz hc n e.on j hj (fun o' ho' e' he' hb' => ?_)
    refine hc e.on o' ho' ?_ e' he' hb'
    simp only [Array.getD_eq_getD_getElem?] at hl ⊢
    cases hq : listed[e.on]? with
    | none => rfl
    | some b => rw [hq] at hl; simpa using hl
def left (ops : Array Oper) (listed : Array Bool) : List Nat := (List.range ops.size).filter fun i => !listed.getD i true
theorem getD_true_of {listed : Array Bool} {i : Nat} (h : i < listed.size) : listed.getD i true = listed.getD i false := by
 simp [Array.getD, h]
theorem range_split {n i : Nat} (h : i < n) : List.range n = List.range i ++ i :: (List.range' (i + 1) (n - i - 1)) := by
 rw [List.range_eq_range', List.range_eq_range']
 have : n = i + (1 + (n - i - 1)) := by omega
 conv => lhs; rw [this]
 rw [← List.range'_append_1]
 congr 1
 rw [Nat.add_comm 1, List.range'_succ]
 simp
theorem wpAny_of_rel (hfine : fine ops = true) {Q : Exit → Act → World → Prop} {Q' : Act → Prop} (hQ : ∀ a w, C w → Q' a → Q .normal a w) :
  ∀ (fuel : Nat) (listed : Array Bool) (a : Act) (w : World), listed.size = ops.size → closed ops listed → (left ops listed).length ≤ fuel → C w →
   wpRelI P ops C Rc Q' (left ops listed) a → wpAny P .any ops Q fuel listed a w := by
 have hsel : ∀ (j : Nat) (o : Oper) cs b, ops[j]? = some o → o.op ≠ .select cs b := fun j o cs b h => (fine_at hfine h).2.1 cs b
 -- a region with something left has something ready
 have hready : ∀ listed : Array Bool, listed.size = ops.size → Region.ready .any ops listed = [] → left ops listed = [] := by
  intro listed hsz hr
  cases hl : left ops listed with
  | nil => rfl
  | cons i l =>
   exfalso
   have hi : i ∈ left ops listed := by rw [hl]; exact List.mem_cons_self ..
   have hmin : ∀ j ∈ left ops listed, i ≤ j := by
    have hp : (left ops listed).Pairwise (· < ·) := (List.pairwise_lt_range).filter _
    rw [hl] at hp ⊢
    intro j hj
    rcases List.mem_cons.1 hj with rfl | hj
    ·exact Nat.le_refl _
    ·exact Nat.le_of_lt ((List.pairwise_cons.1 hp).1 j hj)
   obtain ⟨hi1, hi2⟩ := List.mem_filter.1 hi
   have hlt := List.mem_range.1 hi1
   have ho : ops[i]? = some ops[i] := Array.getElem?_eq_getElem hlt
   have : i ∈ Region.ready .any ops listed := by
    unfold Region.ready
    refine List.mem_filter.2 ⟨hi1, ?_⟩
    simp only [hi2, Bool.true_and, ho, Option.map_some, Option.getD_some]
    rw [← Array.all_toList, List.all_eq_true]
    intro e he
    cases hb : Region.binds .any e with
    | false => rfl
    | true =>
     have hlte := (fine_at hfine ho).1 e (by simpa using he) hb
     rw [Bool.not_true, Bool.false_or, ← getD_true_of (by omega)]
     cases hq : listed.getD e.on true with
     | true => rfl
     | false =>
      exfalso
      have := hmin e.on (List.mem_filter.2 ⟨List.mem_range.2 (by omega), by rw [hq]; rfl⟩)
      omega
   rw [hr] at this
   cases this
 intro fuel
 induction fuel with
 | zero =>
  intro listed a w hsz _ hlen hw h
  have hl : left ops listed = [] := List.eq_nil_of_length_eq_zero (by omega)
  refine ⟨?_, hQ a w hw (by rw [hl] at h; exact h)⟩
  cases hr : Region.ready .any ops listed with
  | nil => rfl
  | cons i l =>
   exfalso
   have hi : i ∈ Region.ready .any ops listed := by rw [hr]; exact List.mem_cons_self ..
   have hi' : i ∈ left ops listed := by
    unfold Region.ready at hi
    obtain ⟨h1, h2⟩ := List.mem_filter.1 hi
    exact List.mem_filter.2 ⟨h1, by simp only [Bool.and_eq_true] at h2; exact h2.1⟩
   rw [hl] at hi'; cases hi'
 | succ fuel ih =>
  intro listed a w hsz hc hlen hw h
  refine ⟨fun hr => hQ a w hw (by rw [hready listed hsz hr] at h; exact h), fun i hi => ?_⟩
  unfold Region.ready at hi
  obtain ⟨h1, h2⟩ := List.mem_filter.1 hi
  simp only [Bool.and_eq_true] at h2
  obtain ⟨hun, hpre⟩ := h2
  have hlt := List.mem_range.1 h1
  have ho : ops[i]? = some ops[i] := Array.getElem?_eq_getElem hlt
  generalize ops[i] = oi at ho
  simp only [ho, Option.map_some, Option.getD_some] at hpre
  have hpre' : ∀ e ∈ oi.after, Region.binds .any e = true → listed.getD e.on false = true := by
   intro e he hb
   rw [← Array.all_toList, List.all_eq_true] at hpre
   have := hpre e (by simpa using he)
   simpa [hb] using this
  -- what is left splits at i
  have hsplit : left ops listed = (List.range i).filter (fun j => !listed.getD j true) ++ i :: (List.range' (i + 1) (ops.size - i - 1)).filter (fun j => !listed.getD j true) := by
   unfold left
   rw [range_split hlt, List.filter_append, List.filter_cons, if_pos hun]
  have hset : left ops (listed.setIfInBounds i true) = (List.range i).filter (fun j => !listed.getD j true) ++ (List.range' (i + 1) (ops.size - i - 1)).filter (fun j => !listed.getD j true) := by
   have key : ∀ j, j ≠ i → (listed.setIfInBounds i true).getD j true = listed.getD j true := by
    intro j hj
    simp only [Array.getD_eq_getD_getElem?]
    rw [Array.getElem?_setIfInBounds_ne (Ne.symm hj)]
   have hself : (listed.setIfInBounds i true).getD i true = true := by
    simp only [Array.getD_eq_getD_getElem?]
    rw [Array.getElem?_setIfInBounds_self_of_lt (by omega)]
    rfl
   unfold left
   rw [range_split hlt, List.filter_append, List.filter_cons, if_neg (by rw [hself]; simp)]
   congr 1
   ·refine List.filter_congr fun j hj => ?_
    rw [key j (by have := List.mem_range.1 hj; omega)]
   ·refine List.filter_congr fun j hj => ?_
    rw [key j (by have := List.mem_range'_1.1 hj; omega)]
  rw [hsplit] at h
  have hb := wpRelI_bubble hsel ho _ _ a (fun j hj oj hoj => by
   obtain ⟨hj1, hj2⟩ := List.mem_filter.1 hj
   have hji := List.mem_range.1 hj1
   rcases (fine_at hfine ho).2.2 j oj hji hoj with hap | han
   ·exact hap
   ·exfalso
    have := closed_anc hsz hc _ _ _ han (fun o' ho' => by rw [ho] at ho'; cases ho'; exact hpre')
    rw [← getD_true_of (by omega)] at this
    rw [this] at hj2; cases hj2) h
  rw [← hset] at hb
  simp only [wpRelI, ho] at hb
  have hsz' : (listed.setIfInBounds i true).size = ops.size := by simpa using hsz
  have hc' : closed ops (listed.setIfInBounds i true) := by
   intro k o hk hl e he hbd
   by_cases hki : k = i
   ·subst hki
    rw [ho] at hk; cases hk
    exact getD_set_true (hpre' e he hbd)
   ·refine getD_set_true (hc k o hk ?_ e he hbd)
    simp only [Array.getD_eq_getD_getElem?] at hl ⊢
    rwa [Array.getElem?_setIfInBounds_ne (Ne.symm hki)] at hl
  have hlen' : (left ops (listed.setIfInBounds i true)).length ≤ fuel := by
   rw [hset]; rw [hsplit] at hlen
   simp only [List.length_append, List.length_cons] at hlen ⊢
   omega
  unfold wpOp
  simp only [ho]
  unfold relAt at hb
  split
  ·rename_i hwt
   rw [if_pos hwt] at hb
   refine .inl ?_
   obtain ⟨hok, hv⟩ := hb w hw
   unfold Oper.wp
   generalize (execOp a.eval oi).run P w = r at hok hv
   cases r with
   | halt x w' => exact hok.elim
   | ok n w' =>
    cases n <;> first | exact hok.elim | skip
    case value u => exact ih _ _ _ hsz' hc' hlen' hok (hv u rfl)
    case skip => exact ih _ _ _ hsz' hc' hlen' hok (hv undef rfl)
    case enter f args =>
     refine Calls.mono hok fun e w2 ⟨v, he, hr, hw2⟩ => ?_
     subst he
     exact ih _ _ _ hsz' hc' hlen' hw2 (hv v hr)
  ·rename_i hwt
   rw [if_neg hwt] at hb
   exact ih _ _ _ hsz' hc' hlen' hw hb
theorem wpRelI_of_wpRel {Q' : Act → Prop} (l : List Oper) : ∀ k, (∀ j, l[j]? = ops[k + j]?) → ∀ a, wpRel P ops C Rc Q' l a → wpRelI P ops C Rc Q' (List.range' k l.length) a := by
 induction l with
 | nil => intro k _ a h; exact h
 | cons o l ih =>
  intro k h a hh
  have h0 : ops[k]? = some o := by simpa using (h 0).symm
  have ih' := ih (k + 1) (fun j => by have := h (j + 1); simpa [Nat.add_assoc, Nat.add_comm 1 j] using this)
  simp only [List.length_cons, List.range'_succ, wpRelI, h0]
  exact relAt_mono ih' hh
theorem wp_region_rel {id : Nat} {l : List Oper} {a : Act} {w : World} {Q : Exit → Act → World → Prop} (C : World → Prop) (Rc : FuncId → Array Value → Value → Prop) (hm : P.follows .mixedOrders = true) (hfine : fine l.toArray = true) (hC : C w.drew)
  (h : wpRel P l.toArray C Rc (fun a' => ∀ w', C w' → Q .normal a' w') l a) : (Code.region id l.toArray true).wp P Q a w := by
 refine wp_region_any hm ?_
 have h' := wpRelI_of_wpRel (P := P) (C := C) (Rc := Rc) l 0 (ops := l.toArray) (by simp) a h
 have hleft : left l.toArray (Array.replicate l.toArray.size false) = List.range l.length := by
  unfold left
  rw [List.size_toArray, List.filter_eq_self]
  intro j hj
  have := List.mem_range.1 hj
  simp [this]
 refine wpAny_of_rel (C := C) (Rc := Rc) (Q' := fun a' => ∀ w', C w' → Q .normal a' w') hfine (fun a w hw hq => hq w hw) _ _ a _ (by simp) ?_ (by rw [hleft]; simp) hC ?_
 ·intro i o hi hl
  exfalso
  have hlt : i < l.toArray.size := by
   rcases Nat.lt_or_ge i l.toArray.size with h' | h'
   ·exact h'
   ·rw [Array.getElem?_eq_none h'] at hi; cases hi
  have : i < l.length := by simpa using hlt
  simp [this] at hl
 ·rw [hleft, List.range_eq_range']
  exact h'
theorem wpRel_nil {Q : Act → Prop} {a : Act} (h : Q a) : wpRel P ops C Rc Q [] a := h
theorem relOp_of_quiet {o : Oper} {a : Act} {K : Act → Prop} (h : o.quiet P a C K) (hcall : ∀ w, C w → ∀ f args w', (execOp a.eval o).run P w ≠ .ok (.enter f args) w') : relOp P C Rc o a K := by
 obtain ⟨v, h1, h2⟩ := h
 intro w hw
 have h3 := h1 w hw
 have h4 := hcall w hw
 unfold Oper.quietAt at h3
 generalize (execOp a.eval o).run P w = r at h3 h4
 cases r with
 | halt x w' => simp only [Oper.quietUpon] at h3
 | ok n w' =>
  cases n <;> simp only [Oper.quietUpon] at h3
  case value u => exact ⟨by rw [okRes, h3.1]; exact hw, fun v' hv => by rw [vals] at hv; rw [hv, h3.2]; exact h2⟩
  case skip => exact ⟨by rw [okRes, h3.1]; exact hw, fun v' hv => by rw [vals] at hv; rw [hv, ← h3.2]; exact h2⟩
  case enter f args => exact (h4 f args w' rfl).elim
end
end Go.Rel
