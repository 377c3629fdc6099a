/- Floats as canonical words: every NaN is one word; the operations on words up to that; the walk's laws for the float operations, whose NaN the model draws. -/
import Derived.WalkLawsBesides
import Derived.WalkKit
import Derived.Deep.Draws
namespace Go.Fl

/-- The one word of all NaN. -/
def nanc : Nat := 9221120237041090561

def isN (b : Nat) : Bool := (Ieee.double.read b).isNaN
/-- A word, all NaN as one. -/
def cn (b : Nat) : Nat := if isN b then nanc else b

def fop (op : BinOp) (x y : Nat) : Nat := (floatBits op .f64 x y).getD nanc
def fadd (x y : Nat) : Nat := (Ieee.double.add x y).getD nanc
def fsub (x y : Nat) : Nat := (Ieee.double.sub x y).getD nanc
def fmul (x y : Nat) : Nat := (Ieee.double.mul x y).getD nanc
def fdiv (x y : Nat) : Nat := (Ieee.double.div x y).getD nanc
def fsqrt (x : Nat) : Nat := (Ieee.double.sqrt x).getD nanc
def ford (x y : Nat) : Option Ordering := Ieee.double.order x y
def feq (x y : Nat) : Bool := ford x y == some .eq
def flt (x y : Nat) : Bool := ford x y == some .lt
def fle (x y : Nat) : Bool := ford x y == some .lt || ford x y == some .eq

theorem isN_nanc : isN nanc = true := by decide +kernel

theorem read_word_infRung_le (neg : Bool) {rung : Nat} (h : rung ≤ Ieee.double.infRung) : ((Ieee.double.read (Ieee.double.word neg rung)).isNaN) = false := by
  have hI : Ieee.double.infRung = 9218868437227405312 := by decide +kernel
  have hS : Ieee.double.signWeight = 9223372036854775808 := by decide +kernel
  have hmod : Ieee.double.word neg rung % Ieee.double.signWeight = rung := by
    unfold Ieee.Format.word
    rw [hS]; rw [hI] at h
    split <;> omega
  unfold Ieee.Format.read
  dsimp only
  rw [hmod]
  by_cases h1 : rung < Ieee.double.binade
  · rw [if_pos h1]; rfl
  · rw [if_neg h1]
    by_cases h2 : rung < Ieee.double.infRung
    · rw [if_pos h2]; rfl
    · rw [if_neg h2, if_pos (by omega)]; rfl

theorem write_not_nan (d : Ieee.Datum) (h : d.isNaN = false) : isN (Ieee.double.write d) = false := by
  unfold isN
  cases d with
  | number s m e =>
    show ((Ieee.double.read (Ieee.double.nearest s m e)).isNaN) = false
    unfold Ieee.Format.nearest
    split
    · exact read_word_infRung_le s (Nat.zero_le _)
    · exact read_word_infRung_le s (Nat.min_le_right _ _)
  | infinity s => exact read_word_infRung_le s (Nat.le_refl _)
  | nan s f => cases h

theorem map_write_notN {d : Option Ieee.Datum} {r : Nat} (hd : ∀ x, d = some x → x.isNaN = false) (h : d.map Ieee.double.write = some r) : isN r = false := by
  cases d with
  | none => cases h
  | some x => cases h; exact write_not_nan x (hd x rfl)

theorem sum_notN {a b x : Ieee.Datum} (h : a.sum b = some x) : x.isNaN = false := by
  cases a <;> cases b <;> simp [Ieee.Datum.sum] at h
  · subst h; rfl
  · subst h; rfl
  · subst h; rfl
  · obtain ⟨_, h⟩ := h; subst h; rfl

theorem product_notN {a b x : Ieee.Datum} (h : a.product b = some x) : x.isNaN = false := by
  cases a <;> cases b <;> simp [Ieee.Datum.product] at h
  · subst h; rfl
  · obtain ⟨_, h⟩ := h; subst h; rfl
  · obtain ⟨_, h⟩ := h; subst h; rfl
  · subst h; rfl

theorem quotient_notN {k : Nat} {a b x : Ieee.Datum} (h : a.quotient k b = some x) : x.isNaN = false := by
  cases a <;> cases b <;> simp only [Ieee.Datum.quotient] at h
  all_goals first | (cases h; done) | skip
  · split at h
    · split at h
      · cases h
      · cases h; rfl
    · cases h; rfl
  · cases h; rfl
  · cases h; rfl

theorem root_notN {k : Nat} {a x : Ieee.Datum} (h : a.root k = some x) : x.isNaN = false := by
  cases a with
  | nan => simp [Ieee.Datum.root] at h
  | infinity s => simp only [Ieee.Datum.root] at h; split at h <;> cases h; rfl
  | number s m i =>
    simp only [Ieee.Datum.root] at h
    split at h
    · cases h; rfl
    · split at h <;> cases h; rfl

theorem floatBits_notN {op : BinOp} {x y r : Nat} (h : floatBits op .f64 x y = some r) : isN r = false := by
  cases op <;> simp only [floatBits] at h <;> first | (cases h; done) | skip
  · exact map_write_notN (fun _ hx => sum_notN hx) h
  · exact map_write_notN (fun _ hx => sum_notN hx) h
  · exact map_write_notN (fun _ hx => product_notN hx) h
  · exact map_write_notN (fun _ hx => quotient_notN hx) h

theorem cn_of_notN {b : Nat} (h : isN b = false) : cn b = b := by unfold cn; rw [h]; rfl
theorem cn_of_N {b : Nat} (h : isN b = true) : cn b = nanc := by unfold cn; rw [h]; rfl
theorem cn_cn (b : Nat) : cn (cn b) = cn b := by
  cases h : isN b
  · rw [cn_of_notN h, cn_of_notN h]
  · rw [cn_of_N h, cn_of_N isN_nanc]
theorem isN_cn (b : Nat) : isN (cn b) = isN b := by
  cases h : isN b
  · rw [cn_of_notN h, h]
  · rw [cn_of_N h, isN_nanc]

/-- A drawn NaN is one. -/
theorem drawn_isN (t : Nat) : isN (t % 2 * 2 ^ 63 + 0x7ff0000000000000 + 1 + t / 2 % (2 ^ 52 - 1)) = true := by
  have hB : Ieee.double.binade = 4503599627370496 := by decide +kernel
  have hI : Ieee.double.infRung = 9218868437227405312 := by decide +kernel
  have hS : Ieee.double.signWeight = 9223372036854775808 := by decide +kernel
  have h1 : t / 2 % (2 ^ 52 - 1) < 2 ^ 52 - 1 := Nat.mod_lt _ (by decide)
  generalize t / 2 % (2 ^ 52 - 1) = k at h1
  have h2 : t % 2 < 2 := Nat.mod_lt _ (by decide)
  generalize t % 2 = j at h2
  have hmod : (j * 2 ^ 63 + 0x7ff0000000000000 + 1 + k) % Ieee.double.signWeight = 0x7ff0000000000001 + k := by
    rw [hS]; omega
  unfold isN Ieee.Format.read
  simp only [hmod, hB, hI]
  rw [if_neg (by omega), if_neg (by omega), if_neg (by omega)]
  rfl

theorem cut_isN (x y t : Nat) : isN (Question.cut (.nanBits .f64 x y) t) = true := drawn_isN t

theorem read_nan {x : Nat} (h : isN x = true) : ∃ s t, Ieee.double.read x = .nan s t := by
  unfold isN at h
  cases hr : Ieee.double.read x with
  | nan s t => exact ⟨s, t, rfl⟩
  | number => rw [hr] at h; cases h
  | infinity => rw [hr] at h; cases h

theorem floatBits_N1 (op : BinOp) {x : Nat} (y : Nat) (h : isN x = true) : floatBits op .f64 x y = none := by
  obtain ⟨s, t, hr⟩ := read_nan h
  cases op <;> first | rfl | skip
  all_goals (simp only [floatBits, FloatKind.format, Ieee.Format.add, Ieee.Format.sub, Ieee.Format.mul, Ieee.Format.div, hr]; rfl)

theorem floatBits_N2 (op : BinOp) (x : Nat) {y : Nat} (h : isN y = true) : floatBits op .f64 x y = none := by
  obtain ⟨s, t, hr⟩ := read_nan h
  cases op <;> first | rfl | skip
  all_goals (simp only [floatBits, FloatKind.format, Ieee.Format.add, Ieee.Format.sub, Ieee.Format.mul, Ieee.Format.div, hr]; cases Ieee.double.read x <;> rfl)

/-- An operation sees no more than the class of its operands. -/
theorem fop_cn (op : BinOp) (x y : Nat) : fop op (cn x) (cn y) = fop op x y := by
  unfold fop
  have h1 : floatBits op .f64 (cn x) (cn y) = floatBits op .f64 x (cn y) := by
    cases h : isN x
    · rw [cn_of_notN h]
    · rw [floatBits_N1 op _ h, floatBits_N1 op _ (by rw [isN_cn, h])]
  have h2 : floatBits op .f64 x (cn y) = floatBits op .f64 x y := by
    cases h : isN y
    · rw [cn_of_notN h]
    · rw [floatBits_N2 op _ h, floatBits_N2 op _ (by rw [isN_cn, h])]
  rw [h1, h2]

theorem ford_N1 {x : Nat} (y : Nat) (h : isN x = true) : ford x y = none := by
  obtain ⟨s, t, hr⟩ := read_nan h
  simp only [ford, Ieee.Format.order, hr]; rfl
theorem ford_N2 (x : Nat) {y : Nat} (h : isN y = true) : ford x y = none := by
  obtain ⟨s, t, hr⟩ := read_nan h
  simp only [ford, Ieee.Format.order, hr]; cases Ieee.double.read x <;> rfl
theorem ford_cn (x y : Nat) : ford (cn x) (cn y) = ford x y := by
  have h1 : ford (cn x) (cn y) = ford x (cn y) := by
    cases h : isN x
    · rw [cn_of_notN h]
    · rw [ford_N1 _ h, ford_N1 _ (by rw [isN_cn, h])]
  have h2 : ford x (cn y) = ford x y := by
    cases h : isN y
    · rw [cn_of_notN h]
    · rw [ford_N2 _ h, ford_N2 _ (by rw [isN_cn, h])]
  rw [h1, h2]
/-- The walk's spelling of a comparison, by classes. -/
theorem order_cn (x y : Nat) : FloatKind.f64.format.order x y = ford (cn x) (cn y) := (ford_cn x y).symm

theorem ford_cn1 (x y : Nat) : ford (cn x) y = ford x y := by
  rw [← ford_cn (cn x) y, cn_cn, ford_cn]
theorem ford_cn2 (x y : Nat) : ford x (cn y) = ford x y := by
  rw [← ford_cn x (cn y), cn_cn, ford_cn]

theorem ford_self {x : Nat} (h : isN x = false) : ford x x = some .eq := by
  unfold isN at h
  unfold ford Ieee.Format.order
  cases hr : Ieee.double.read x with
  | nan s t => rw [hr] at h; cases h
  | infinity s => cases s <;> rfl
  | number s m e =>
    simp only [Ieee.Datum.order]
    exact congrArg some (by simp [Std.ReflCmp.compare_self])

theorem ne_self (x : Nat) : (ford x x != some .eq) = isN x := by
  cases h : isN x
  · rw [ford_self h]; rfl
  · rw [ford_N1 _ h]; rfl

/-- The classes are one: both NaN, or the same bits. -/
theorem cn_eq_iff (x y : Nat) : cn x = cn y ↔ (isN x = true ∧ isN y = true) ∨ x = y := by
  constructor
  · intro h
    cases hx : isN x <;> cases hy : isN y
    · rw [cn_of_notN hx, cn_of_notN hy] at h; exact .inr h
    · rw [cn_of_notN hx, cn_of_N hy] at h; rw [h, isN_nanc] at hx; cases hx
    · rw [cn_of_N hx, cn_of_notN hy] at h; rw [← h, isN_nanc] at hy; cases hy
    · exact .inl ⟨rfl, rfl⟩
  · rintro (⟨hx, hy⟩ | h)
    · rw [cn_of_N hx, cn_of_N hy]
    · rw [h]

theorem fop_notN {op : BinOp} {x y : Nat} (h : floatBits op .f64 x y ≠ none) : isN (fop op x y) = false := by
  unfold fop
  cases h' : floatBits op .f64 x y with
  | none => exact (h h').elim
  | some r => exact floatBits_notN h'
/-- What an operation gives is of its own class. -/
theorem cn_fop (op : BinOp) (x y : Nat) : cn (fop op x y) = fop op x y := by
  cases h : floatBits op .f64 x y with
  | none => simp only [fop, h, Option.getD_none]; exact cn_of_N isN_nanc
  | some r => exact cn_of_notN (fop_notN (by rw [h]; simp))
theorem cn_fadd (x y : Nat) : cn (fadd x y) = fadd x y := cn_fop .add x y
theorem cn_fsub (x y : Nat) : cn (fsub x y) = fsub x y := cn_fop .sub x y
theorem cn_fmul (x y : Nat) : cn (fmul x y) = fmul x y := cn_fop .mul x y
theorem cn_fdiv (x y : Nat) : cn (fdiv x y) = fdiv x y := cn_fop .quo x y

section
variable {P : Program}

/-- '+', '-', '*', '/' on any two words: a word of the right class; at a NaN one draw. -/
theorem run_fop (w : World) (op : BinOp) (hop : op = .add ∨ op = .sub ∨ op = .mul ∨ op = .quo) (t : TypeId) (x y : Nat) :
    ∃ r n, (binOp op t (.float .f64 x) (.float .f64 y)).run P w = .ok (.float .f64 r) (w.drewN n) ∧ cn r = fop op x y := by
  cases h : floatBits op .f64 x y with
  | some r =>
    exact ⟨r, 0, run_float_arith w op t .f64 x y r h, by rw [cn_of_notN (floatBits_notN h)]; simp [fop, h]⟩
  | none =>
    refine ⟨Question.cut (.nanBits .f64 x y) (w.tape w.drawn (.nanBits .f64 x y)), 1, ?_, ?_⟩
    · have hq : Question.forced (.nanBits .f64 x y) = false := rfl
      rcases hop with rfl | rfl | rfl | rfl <;> simp only [floatBits] at h <;>
        simp [binOp, Op.floatArith, h, choose, Sem.run, Question.forced, World.drewN]
    · rw [cn_of_N (cut_isN x y _)]; simp [fop, h]

end
end Go.Fl
