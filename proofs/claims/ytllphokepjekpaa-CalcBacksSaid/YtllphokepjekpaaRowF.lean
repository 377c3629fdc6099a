/- Rows of floats: parts of them; a whole row appended. -/
import Derived.Test.YtllphokepjekpaaGrow
import Derived.Test.YtllphokepjekpaaOpen
import Derived.Laws.AppendOwnNone
import Derived.KernelRfl
namespace Go.Proofs.Ytllphokepjekpaa
open Go.Fl Go.Rel Go.RowKit Go.ChangeShapes Go.WideShapes Go.Deep

/-- A slice's parts fit. -/
def SlOk (a : Option Addr) (n cap : Nat) : Prop := n ≤ cap ∧ (a = none → cap = 0)

theorem at0_drop (xs : List Nat) (k i : Nat) : at0 (xs.drop k) i = at0 xs (k + i) := by simp [at0, List.getD]
theorem at0_take (xs : List Nat) {k i : Nat} (h : i < k) : at0 (xs.take k) i = at0 xs i := by simp [at0, List.getD, h]
theorem at0_cons (x : Nat) (xs : List Nat) (i : Nat) : at0 (x :: xs) (i + 1) = at0 xs i := by simp [at0, List.getD]
theorem at0_zero (x : Nat) (xs : List Nat) : at0 (x :: xs) 0 = x := rfl

theorem Row.take {w : World} {a : Option Addr} {n : Nat} {xs : List Nat} (h : Row w a n xs) {k : Nat} (hk : k ≤ n) : Row w a k (xs.take k) := by
  obtain ⟨h1, h2, h3⟩ := h
  refine ⟨by simp; omega, by omega, fun h0 => ?_⟩
  obtain ⟨b, off, ha, hc⟩ := h3 (by omega)
  exact ⟨b, off, ha, fun i hi => by rw [hc i (by omega), at0_take xs hi]⟩

theorem Row.drop {w : World} {b off n : Nat} {xs : List Nat} (h : Row w (some ⟨b, off, none⟩) n xs) {k : Nat} (hk : k ≤ n) : Row w (some ⟨b, off + k, none⟩) (n - k) (xs.drop k) := by
  obtain ⟨h1, h2, h3⟩ := h
  refine ⟨by simp; omega, by omega, fun h0 => ?_⟩
  obtain ⟨b', off', ha, hc⟩ := h3 (by omega)
  cases ha
  refine ⟨_, _, rfl, fun i hi => ?_⟩
  rw [Nat.add_assoc, hc (k + i) (by omega), at0_drop]

theorem Row.tail {w : World} {b off n : Nat} {x : Nat} {xs : List Nat} (h : Row w (some ⟨b, off, none⟩) (n + 1) (x :: xs)) : Row w (some ⟨b, off + 1, none⟩) n xs := by
  have := h.drop (k := 1) (by omega)
  simpa using this

theorem Row.nothing {w : World} (a : Option Addr) : Row w a 0 [] := ⟨rfl, by omega, fun h => by omega⟩

theorem Row.head {w : World} {a : Option Addr} {n : Nat} {x : Nat} {xs : List Nat} (h : Row w a (n + 1) (x :: xs)) : ∃ b off, a = some ⟨b, off, none⟩ ∧ b < w.heap.size ∧ w.cell? ⟨b, off, none⟩ = some (.float .f64 x) := by
  obtain ⟨h1, h2, h3⟩ := h
  obtain ⟨b, off, ha, hc⟩ := h3 (by omega)
  have := hc 0 (by omega)
  exact ⟨b, off, ha, World.block_lt_of_cell? w _ this, this⟩

theorem Own.row' {B : Nat} {w : World} {v : Value} {ys : List Nat} (h : Own B w v ys) : ∃ a cap, v = .slice a ys.length cap ∧ SlOk a ys.length cap ∧ Row w a ys.length ys := by
  obtain ⟨a, cap, hv, hr⟩ := h.row
  refine ⟨a, cap, hv, ?_, hr⟩
  rcases h.2 with ⟨h1, h2⟩ | ⟨g, cap', cur, h1, _, _, h2, _⟩
  · rw [hv] at h1
    injection h1 with e1 e2 e3
    exact ⟨by omega, fun _ => e3⟩
  · rw [hv] at h1
    injection h1 with e1 e2 e3
    exact ⟨by omega, fun h => by rw [h] at e1; cases e1⟩

theorem own_made (w : World) : Own w.heap.size (w.alloc (.cells #[] 23)) (.slice (some ⟨w.heap.size, 0, none⟩) 0 0) [] := World.ownsRow_made w #[] 0 (Nat.le_refl _) (by decide) rfl

/-- All of a row's numbers more. -/
theorem wpList_append_fs {ops : Array Oper} {rest : List Oper} {o : Oper} {a : Act} {Q : Exit → Act → World → Prop} {w : World} (hgd : o.guard = none) (s x : Operand)
    (ho : o.op = .call { callee := .builtin .append, args := #[s, x], argTypes := #[22, 22] })
    (B : Nat) (v : Value) (ys : List Nat) (hs : a.eval s = v) (hown : Own B w v ys) (ad : Option Addr) (m c : Nat) (zs : List Nat) (hok : SlOk ad m c) (hx : a.eval x = .slice ad m c) (hy : Row w ad m zs)
    (hb : ys.length + m < 17592186044416) (hB : B ≤ w.heap.size)
    (h : ∀ v' w', Own B w' v' (ys ++ zs) → w.grownBy w' v.ownBlock → (v'.ownBlock = v.ownBlock ∨ v'.ownBlock = some w.heap.size) → wpList Try.prog ops Q rest (a.put o.dst v') w') :
    wpList Try.prog ops Q (o :: rest) a w := by
  obtain ⟨i0, hi, hz0, hz1, hz2⟩ := info_parts info_f
  obtain ⟨hl, hm, hc⟩ := hy
  cases ad with
  | none =>
    have hc0 := hok.2 rfl
    have hm0 : m = 0 := by have := hok.1; omega
    subst hm0 hc0
    obtain rfl : zs = [] := List.eq_nil_of_length_eq_zero hl
    refine wpList_append_own_none hgd s x 22 ho B 23 i0 1 Try.underlying22 hi v _ _ hs hown hx ?_
    exact h v w (by rw [List.append_nil]; exact hown) ⟨rfl, rfl, rfl, Nat.le_refl _, fun _ _ _ => rfl⟩ (.inl rfl)
  | some ad =>
    refine wpList_append_own_at w hgd s x 22 ho B 23 i0 (.float .f64 0) 1 8 Try.underlying22 hi hz0 hz1 hz2 rfl (by decide) v _ _ hs hown ad m c (zs.map (Value.float .f64)) hx (by simp [hl]) ?_ ?_ ?_ ?_ hB ?_
    · intro j u hj
      have hjm : j < m := by
        have := (List.getElem?_eq_some_iff.1 hj).1
        simpa [hl] using this
      obtain ⟨b, off, ha, hcc⟩ := hc (by omega)
      cases ha
      have := hcc j hjm
      have e : u = .float .f64 (at0 zs j) := by
        simp [List.getElem?_map, List.getElem?_eq_getElem (show j < zs.length by omega)] at hj
        rw [← hj]; simp [at0, List.getD, hl, hjm]
      rw [e]
      simpa [Addr.add_lit] using this
    · intro u hu; simp at hu; obtain ⟨t, _, rfl⟩ := hu; rfl
    · unfold maxLen; omega
    · omega
    · intro v' w' h1 h2 _ h4
      refine h v' w' ?_ h2 h4
      unfold Own
      rw [List.length_append, List.map_append, hl]
      exact h1

/-- A head of a slice, a rest of one. -/
theorem slice_hi (b off n cap k : Nat) (z : Int) (hz : z = (k : Int)) (hk : k ≤ cap) (w : World) : (Instr.slice 22 (.slice (some ⟨b, off, none⟩) n cap) none (some (.int .i64 z)) none).run Try.prog w = .ok (.slice (some ⟨b, off, none⟩) k cap) w := by
  have hs : ∀ w, (Go.sizeOf (Try.prog.elem 22)).run Try.prog w = .ok 1 w := fun w => by kernel_rfl
  have ht : Try.prog.underlying 22 = some (.slice (Try.prog.elem 22)) := by kernel_rfl
  subst hz
  rw [run_slice_h _ _ _ _ _ ht .i64 (k : Int) (by omega) (by omega), hs]
  simp [sliced]
  by_cases h : cap = 0
  · simp [h]
  · simp [Addr.add_lit]
theorem slice_lo (b off n cap k : Nat) (z : Int) (hz : z = (k : Int)) (hk : k ≤ n) (hc : k ≠ cap) (w : World) : (Instr.slice 22 (.slice (some ⟨b, off, none⟩) n cap) (some (.int .i64 z)) none none).run Try.prog w = .ok (.slice (some ⟨b, off + k, none⟩) (n - k) (cap - k)) w := by
  have hs : ∀ w, (Go.sizeOf (Try.prog.elem 22)).run Try.prog w = .ok 1 w := fun w => by kernel_rfl
  have ht : Try.prog.underlying 22 = some (.slice (Try.prog.elem 22)) := by kernel_rfl
  subst hz
  rw [run_slice_l _ _ _ _ _ ht .i64 (k : Int) (by omega) (by omega), hs]
  have : ¬ cap = k := fun h => hc h.symm
  simp [sliced, Addr.add_lit, this]
/-- .. wherever it lies. -/
theorem slice_rest {w0 : World} {a : Option Addr} {n cap x : Nat} {xs : List Nat} (hr : Row w0 a (n + 1) (x :: xs)) (hok : SlOk a (n + 1) cap) : ∃ a', SlOk a' n (cap - 1) ∧ Row w0 a' n xs ∧
    ∀ w, (Instr.slice 22 (.slice a (n + 1) cap) (some (.int .i64 1)) none none).run Try.prog w = .ok (.slice a' n (cap - 1)) w := by
  obtain ⟨b, off, rfl, _, _⟩ := hr.head
  by_cases hc : cap = 1
  · have hn : n = 0 := by have := hok.1; omega
    subst hn hc
    obtain rfl : xs = [] := by have := hr.1; simp at this; exact this
    refine ⟨some ⟨b, off, none⟩, ⟨by omega, fun h => by cases h⟩, Row.nothing _, fun w => ?_⟩
    have hs : ∀ w, (Go.sizeOf (Try.prog.elem 22)).run Try.prog w = .ok 1 w := fun w => by kernel_rfl
    have ht : Try.prog.underlying 22 = some (.slice (Try.prog.elem 22)) := by kernel_rfl
    rw [run_slice_l _ _ _ _ _ ht .i64 1 (by omega) (by omega), hs]
    simp [sliced]
  · refine ⟨some ⟨b, off + 1, none⟩, ⟨by have := hok.1; omega, fun h => by cases h⟩, hr.tail, fun w => ?_⟩
    exact slice_lo b off (n + 1) cap 1 1 rfl (by omega) (fun h => hc h.symm) w

section
variable {H : Type} {enc : TypeId × Value → H} {P : Program} {w : World} {spare : Nat → Bool} {held : Bool}
/-- An argument of type []float64, with its parts. -/
theorem floats_ok {t e : TypeId} {a : Option Addr} {n cap : Nat} {d : DataW H} {ps : List MemPlace} (ht : P.underlying t = some (.slice e)) (hc : P.cellsOf e = 1)
    (hd : DataW.Trod enc P w 0 spare held t (.slice a n cap) d ps) : SlOk a n cap := by
  obtain ⟨fuel, hf⟩ := hd
  rcases open_slice1 ht hc hf with ⟨hcs, _⟩ | ⟨a, len', cap', m, n, V, D, Pl, hcs, _, hl, hm, hmm, _, hx⟩
  · simp [Value.cells] at hcs
    obtain ⟨rfl, rfl, rfl⟩ := hcs
    exact ⟨Nat.le_refl _, fun _ => rfl⟩
  · simp [Value.cells] at hcs
    obtain ⟨rfl, rfl, rfl⟩ := hcs
    exact ⟨hl, fun h => by cases h⟩
end
end Go.Proofs.Ytllphokepjekpaa
