/- Pieces of OverKeeps: copies as they are, numbers of one's own, lists that grow by two. -/
import Derived.Test.YtoeldcgclaiokaaCopyB
import Derived.Test.YtoeldcgclaiokaaEdgesW
import Derived.Laws.OwnMore
namespace Go.Proofs.Ytoeldcgclaiokaa
open Go.Fl Go.Rel Go.RowKit
set_option linter.unusedVariables false
set_option linter.unusedSimpArgs false

theorem cp0 {ss : List Smp} (hb : ∀ i, -9223372036854775808 ≤ tS ss i ∧ tS ss i ≤ 9223372036854775807) : ss.map (cpS 0) = ss := by
  apply List.ext_getElem?
  intro i
  by_cases h : i < ss.length
  · rw [List.getElem?_map, List.getElem?_eq_getElem h]
    have hi := hb i
    have e : tS ss i = (ss[i]).t := by simp [tS, sAt, List.getD, h]
    rw [e] at hi
    show some (cpS 0 ss[i]) = some ss[i]
    congr 1
    unfold cpS
    rw [Int.add_zero, show wrap64 (ss[i]).t = (ss[i]).t by unfold wrap64; omega]
  · rw [List.getElem?_eq_none (by simpa using h), List.getElem?_eq_none (by omega)]
theorem wrap0 {z : Int} (h : -9223372036854775808 ≤ z ∧ z ≤ 9223372036854775807) : wrap64 (z + 0) = z := by unfold wrap64; omega

/-- Numbers of the caller's own. -/
def NumsOwn (m : Nm) (a b : Nat) (w : World) (e : Ending) (w' : World) : Prop := ∃ v, e = .returned v ∧ Own w.heap.size w' v (qsOf m a b) ∧ Below w.heap.size w w'

theorem own_lit1 (w : World) (a : Nat) : Own w.heap.size (w.alloc (.cells #[.float .f64 a] 25)) (.slice (some ⟨w.heap.size, 0, none⟩) 1 1) [a] :=
  World.ownsRow_lit w #[.float .f64 a] 1 (Nat.le_refl _) (by decide) rfl
theorem own_lit2 (w : World) (a b : Nat) : Own w.heap.size (w.alloc (.cells #[.float .f64 a, .float .f64 b] 25)) (.slice (some ⟨w.heap.size, 0, none⟩) 2 2) [a, b] :=
  World.ownsRow_lit w #[.float .f64 a, .float .f64 b] 2 (Nat.le_refl _) (by decide) rfl

set_option maxHeartbeats 4000000 in
set_option maxRecDepth 100000 in
theorem numbers_own (m : Nm) (a b : Nat) (w : World) : Calls Try.prog 22 #[.string m.str, .float .f64 a, .float .f64 b] w (NumsOwn m a b w) := by
  have q1 := str_quantile m
  have q2 := str_predict m
  have q3 := str_beat m
  have q4 := str_smoothing m
  have kind : m = .quantile ∨ m = .predict ∨ m = .beat ∨ m = .smoothing ∨ (m ≠ .quantile ∧ m ≠ .predict ∧ m ≠ .beat ∧ m ≠ .smoothing) := by cases m <;> decide
  rcases kind with hm | hm | hm | hm | ⟨h1, h2, h3, h4⟩
  · have HN : Hid (qsOf m a b = [a]) := by subst hm; exact rfl
    rw [decide_eq_true hm] at q1
    clear hm q2 q3 q4
    go_enter Try.func22, Try.ntmps22
    go_wp2_with fail
    go_ret
    exact ⟨_, rfl, by rw [HN.out]; exact own_lit1 w a, (Below.refl _ _).alloc (Nat.le_refl _) _⟩
  · have HN : Hid (qsOf m a b = [a]) := by subst hm; exact rfl
    rw [decide_eq_true hm] at q2
    rw [decide_eq_false (by subst hm; decide)] at q1
    clear hm q3 q4
    go_enter Try.func22, Try.ntmps22
    go_wp2_with fail
    go_ret
    exact ⟨_, rfl, by rw [HN.out]; exact own_lit1 w a, (Below.refl _ _).alloc (Nat.le_refl _) _⟩
  · have HN : Hid (qsOf m a b = [a]) := by subst hm; exact rfl
    rw [decide_eq_true hm] at q3
    rw [decide_eq_false (by subst hm; decide)] at q1
    rw [decide_eq_false (by subst hm; decide)] at q2
    clear hm q4
    go_enter Try.func22, Try.ntmps22
    go_wp2_with fail
    go_ret
    exact ⟨_, rfl, by rw [HN.out]; exact own_lit1 w a, (Below.refl _ _).alloc (Nat.le_refl _) _⟩
  · have HN : Hid (qsOf m a b = [a, b]) := by subst hm; exact rfl
    rw [decide_eq_true hm] at q4
    rw [decide_eq_false (by subst hm; decide)] at q1
    rw [decide_eq_false (by subst hm; decide)] at q2
    rw [decide_eq_false (by subst hm; decide)] at q3
    clear hm
    go_enter Try.func22, Try.ntmps22
    go_wp2_with fail
    go_ret
    exact ⟨_, rfl, by rw [HN.out]; exact own_lit2 w a b, (Below.refl _ _).alloc (Nat.le_refl _) _⟩
  · have HN : Hid (qsOf m a b = []) := qs_none h1 h2 h3 h4 a b
    rw [decide_eq_false h1] at q1
    rw [decide_eq_false h2] at q2
    rw [decide_eq_false h3] at q3
    rw [decide_eq_false h4] at q4
    clear h1 h2 h3 h4
    go_enter Try.func22, Try.ntmps22
    go_wp2_with fail
    go_ret
    exact ⟨_, rfl, by rw [HN.out]; exact own_nil _ _, Below.refl _ _⟩

/-- Two samples more. -/
theorem wpList_append_s2 {ops : Array Oper} {rest : List Oper} {o : Oper} {a : Act} {Q : Exit → Act → World → Prop} {w : World} (hgd : o.guard = none) (s x : Operand)
    (ho : o.op = .call { callee := .builtin .append, args := #[s, x], argTypes := #[28, 28] })
    (B : Nat) (v : Value) (ss : List Smp) (hs : a.eval s = v) (hown : OwnS B w v ss) (b c : Nat) (y z : Smp) (hx : a.eval x = .slice (some ⟨b, 0, none⟩) 2 c)
    (hy : ∀ j u, (smpCells y ++ smpCells z)[j]? = some u → w.cell? ⟨b, j, none⟩ = some u)
    (hb : ss.length < 5864062014803) (hB : B ≤ w.heap.size)
    (h : ∀ g cap w', OwnS B w' (.slice (some ⟨g, 0, none⟩) (ss.length + 2) cap) (ss ++ [y, z]) → w.grownBy w' v.ownBlock → wpList Try.prog ops Q rest (a.put o.dst (.slice (some ⟨g, 0, none⟩) (ss.length + 2) cap)) w') :
    wpList Try.prog ops Q (o :: rest) a w := by
  obtain ⟨i0, hi, hz0, hz1, hz2⟩ := info_parts info_smp
  refine wpList_append_own_at w hgd s x 28 ho B 45 i0 (.agg #[.int .i64 0, .float .f64 0, .bool false]) 3 24 Try.underlying28 hi hz0 hz1 hz2 rfl (by decide) v _ _ hs hown ⟨b, 0, none⟩ 2 c (smpCells y ++ smpCells z) hx rfl ?_ ?_ ?_ ?_ hB ?_
  · intro j u hj
    have := hy j u hj
    rw [show (⟨b, 0, none⟩ : Addr).add j = ⟨b, j, none⟩ by unfold Addr.add; split <;> simp_all]
    exact this
  · intro u hu; simp [smpCells] at hu; rcases hu with rfl | rfl | rfl | rfl | rfl | rfl <;> rfl
  · unfold maxLen; omega
  · omega
  · intro v' w' h1 h2 h3 h4
    have h5 : OwnS B w' v' (ss ++ [y, z]) := by
      unfold OwnS
      rw [List.length_append, List.flatMap_append]
      simpa using h1
    obtain ⟨k1, k2⟩ := h5
    rcases k2 with ⟨_, hn⟩ | ⟨g, cap', cur, rfl, hg, hrest⟩
    · simp at hn
    · rw [show (ss ++ [y, z]).length = ss.length + 2 by simp] at *
      exact h g cap' w' ⟨by rw [show (ss ++ [y, z]).length = ss.length + 2 by simp]; exact k1, .inr ⟨g, cap', cur, by rw [show (ss ++ [y, z]).length = ss.length + 2 by simp], hg, by rw [show (ss ++ [y, z]).length = ss.length + 2 by simp]; exact hrest⟩⟩ h2

/-- The first k of a slice. -/
theorem slice_first_f (g n cap k : Nat) (hk : k ≤ cap) (hc : 0 < cap) (w : World) :
    (Instr.slice 32 (.slice (some ⟨g, 0, none⟩) n cap) none (some (.int .i64 (k : Int))) none).run Try.prog w = .ok (.slice (some ⟨g, 0, none⟩) k cap) w := by
  have hs : (sizeOf (Try.prog.elem 32)).run Try.prog w = .ok 1 w := by kernel_rfl
  rw [run_slice_h w 32 _ n cap (by kernel_rfl) .i64 (k : Int) (by omega) (by omega), hs]
  simp [Result.andThen, sliced, Addr.add, show cap ≠ 0 by omega]
theorem slice_first_s (g n cap k : Nat) (hk : k ≤ cap) (hc : 0 < cap) (w : World) :
    (Instr.slice 28 (.slice (some ⟨g, 0, none⟩) n cap) none (some (.int .i64 (k : Int))) none).run Try.prog w = .ok (.slice (some ⟨g, 0, none⟩) k cap) w := by
  have hs : (sizeOf (Try.prog.elem 28)).run Try.prog w = .ok 3 w := by kernel_rfl
  rw [run_slice_h w 28 _ n cap (by kernel_rfl) .i64 (k : Int) (by omega) (by omega), hs]
  simp [Result.andThen, sliced, Addr.add, show cap ≠ 0 by omega]

theorem mark_eq (w : World) : (binOp .neq 45 (.agg #[.int .i64 (-7), .float .f64 4619567317775286272, .bool true]) (.agg #[.int .i64 (-7), .float .f64 4619567317775286272, .bool true])).run Try.prog w = .ok (.bool false) w := by kernel_rfl
end Go.Proofs.Ytoeldcgclaiokaa
