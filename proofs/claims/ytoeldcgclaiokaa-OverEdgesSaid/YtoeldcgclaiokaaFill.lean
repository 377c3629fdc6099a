/- A new block of floats, filled one by one. -/
import Derived.Test.YtoeldcgclaiokaaGrow
import Derived.Test.YtoeldcgclaiokaaBox
import Derived.OwnWalk
import Derived.Laws.MakeOwn
namespace Go.Proofs.Ytoeldcgclaiokaa
open Go.Fl Go.Rel Go.RowKit
set_option linter.unusedVariables false
set_option linter.unusedSimpArgs false

/-- The first k of n cells are filled. -/
def fillC (f : Nat → Nat) (n k : Nat) : Array Value := (Array.range n).map fun i => .float .f64 (if i < k then f i else 0)
theorem fillC_get (f : Nat → Nat) {n k i : Nat} (h : i < n) : (fillC f n k)[i]? = some (.float .f64 (if i < k then f i else 0)) := by simp [fillC, h]
theorem fillC_size (f : Nat → Nat) (n k : Nat) : (fillC f n k).size = n := by simp [fillC]
theorem fillC_set (f : Nat → Nat) {n k : Nat} (h : k < n) : (fillC f n k).setIfInBounds k (.float .f64 (f k)) = fillC f n (k + 1) := by
  apply Array.ext_getElem?
  intro i
  by_cases hi : i < n
  · rw [fillC_get f hi]
    by_cases hk : k = i
    · subst hk
      rw [Array.getElem?_setIfInBounds_self_of_lt (by rw [fillC_size]; exact h), if_pos (by omega)]
    · rw [Array.getElem?_setIfInBounds_ne hk, fillC_get f hi]
      congr 2
      by_cases h1 : i < k
      · rw [if_pos h1, if_pos (by omega)]
      · rw [if_neg h1, if_neg (by omega)]
  · rw [Array.getElem?_eq_none (by simp [fillC_size]; omega), Array.getElem?_eq_none (by rw [fillC_size]; omega)]
theorem fillC_made (f : Nat → Nat) (n : Nat) : madeCells (Value.float .f64 0).cells (n * 1) = fillC f n 0 := by
  unfold madeCells fillC
  rw [Nat.mul_one]
  congr 1
  funext i
  simp [Value.cells, Nat.mod_one]

theorem wpList_make_f {ops : Array Oper} {rest : List Oper} {o : Oper} {a : Act} {Q : Exit → Act → World → Prop} {w : World} (hgd : o.guard = none) (l c : Operand) (ho : o.op = .makeSlice 32 l c) (f : Nat → Nat) (n : Nat)
    (hl : a.eval l = .int .i64 (n : Int)) (hc : a.eval c = .int .i64 (n : Int)) (hb : n < 17592186044416)
    (h : ∀ w1, Bk.Is w1 w.heap.size (fillC f n 0) 25 → Below w.heap.size w w1 → wpList Try.prog ops Q rest (a.put o.dst (.slice (some ⟨w.heap.size, 0, none⟩) n n)) w1) : wpList Try.prog ops Q (o :: rest) a w := by
  obtain ⟨i0, hi, hz0, hz1, hz2⟩ := info_parts info_f
  refine wpList_plain hgd fun K hK' => ?_
  have hr := run_make (P := Try.prog) w 32 25 i0 _ Try.underlying32 hi hz0 .i64 .i64 (n : Int) (n : Int) (by omega) (by omega) (by rw [hz2]; omega) (by omega)
  simp only [Int.toNat_natCast, hz1, fillC_made f n] at hr
  unfold Oper.wp
  simp [execOp, ho, hl, hc, hr, Result.andThen]
  exact hK' _ _ (h _ (Bk.Is.made w _ _) ((Below.refl _ _).alloc (Nat.le_refl _) _))

/-- A block that is full is a row. -/
theorem fill_row {w : World} {B n : Nat} {f : Nat → Nat} {xs : List Nat} (h : Bk.Is w B (fillC f n n) 25) (hl : xs.length = n) (hn : n ≤ 9223372036854775807) (hx : ∀ i, i < n → at0 xs i = f i) : Row w (some ⟨B, 0, none⟩) n xs :=
  ⟨hl, hn, fun _ => ⟨B, 0, rfl, fun i hi => by rw [Nat.zero_add, h.cell, fillC_get f hi, if_pos hi, hx i hi]⟩⟩
theorem fillC_congr {f g : Nat → Nat} {n : Nat} (h : ∀ i, i < n → f i = g i) (k : Nat) : fillC f n k = fillC g n k := by
  apply Array.ext_getElem?
  intro i
  by_cases hi : i < n
  · rw [fillC_get f hi, fillC_get g hi, h i hi]
  · rw [Array.getElem?_eq_none (by rw [fillC_size]; omega), Array.getElem?_eq_none (by rw [fillC_size]; omega)]

def FillRel (f : Nat → Nat) (n : Nat) (W : World) (vi : Value) (wr : World) : Prop :=
  ∃ k : Nat, k ≤ n ∧ vi = .int .i64 (k : Int) ∧ Bk.Is wr W.heap.size (fillC f n k) 25 ∧ Below W.heap.size W wr

/-- A store into the block that is being filled. -/
theorem below_fill {W w : World} (h : Below W.heap.size W w) {B k : Nat} (hB : B = W.heap.size) (v : Value) : Below W.heap.size W (w.setCell ⟨B, k, none⟩ v) :=
  h.trans ⟨rfl, rfl, rfl, by simp [World.setCell], fun i hi => by unfold World.setCell; simp [Array.getElem?_modify]; intro e; omega⟩
end Go.Proofs.Ytoeldcgclaiokaa
