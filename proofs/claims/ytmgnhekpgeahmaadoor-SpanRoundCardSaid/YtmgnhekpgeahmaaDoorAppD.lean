/- strconv.AppendInt and AppendUint onto a list of bytes of the call's own; a string behind it. -/
import Derived.Test.YtmgnhekpgeahmaaDoorShelfD
import Derived.Test.YtmgnhekpgeahmaaDoorGrowB
import Derived.Test.YtmgnhekpgeahmaaDoorDigB
import Derived.Test.YtmgnhekpgeahmaaDoorDurText
import Derived.Lib.ItoaMem
import Derived.Lib.AppendIntMem
import Derived.Lib.AppendStr
namespace Go.Proofs.YtmgnhekpgeahmaaDoor
open Go.Dur Go.Fl Go.Rel Go.RowKit
open Go.Lib (decDigits)

/-- The table of powers of ten lies as the text lays it. -/
def Tab (B : Nat) (w : World) : Prop := Lib.TabBelow Tryd.prog B w "internal/strconv.uint64pow10" .u64 Lib.pow10Tab
theorem Tab.on {B : Nat} {w w1 : World} (h : Tab B w) (hb : Below B w w1) : Tab B w1 := Lib.TabBelow.on h hb

theorem appendInt_any (n : Nat) (i : Int) (hi : i = (n : Int)) (hn : n ≤ 9223372036854775807) (B : Nat) (v : Value) (l : List UInt8) (w : World) (hB : B ≤ w.heap.size) (hown : OwnB B w v l) (hl : l.length ≤ 1000000) (ht : Tab B w) :
    Calls Tryd.prog 20 #[v, .int .i64 i, .int .i64 10] w (OwnRet B w (l ++ decDigits n)) := by
  subst hi
  refine (Tryd.strconv_AppendInt_10 B l.length (n : Int) (by omega) (by omega) v (Lib.byteCells l) w hown hB (by omega) ht).mono ?_
  rintro e w' ⟨v', rfl, h1, h2, _⟩
  rw [Lib.itoa_nonneg] at h1
  refine ⟨v', rfl, ?_, h2⟩
  unfold OwnB
  rw [List.length_append, Lib.byteCells_append]
  exact h1

theorem appendUint_any (n : Nat) (i : Int) (hi : i = (n : Int)) (hn : n ≤ 18446744073709551615) (B : Nat) (v : Value) (l : List UInt8) (w : World) (hB : B ≤ w.heap.size) (hown : OwnB B w v l) (hl : l.length ≤ 1000000) (ht : Tab B w) :
    Calls Tryd.prog 22 #[v, .int .u64 i, .int .i64 10] w (OwnRet B w (l ++ decDigits n)) := by
  subst hi
  have HC : Hid (Calls Tryd.prog 38 #[v, .int .u64 (n : Int), .int .i64 10] w (OwnRet B w (l ++ decDigits n))) := by
    refine (Tryd.internal_strconv_AppendUint_10 B l.length n (by omega) v (Lib.byteCells l) w hown hB (by omega) (Lib.TabBelow.here ht)).mono ?_
    rintro e w' ⟨v', rfl, h1, h2, _⟩
    refine ⟨v', rfl, ?_, h2⟩
    unfold OwnB
    rw [List.length_append, Lib.byteCells_append]
    exact h1
  clear hown ht
  go_enter Tryd.func22, Tryd.ntmps22
  go_wp2_with (go_at_call 38; refine HC.out.mono ?_; rintro e w' ⟨v', rfl, h1, h2⟩)
  go_ret
  exact ⟨v', rfl, h1, h2⟩

theorem strCells_list (l : List UInt8) : Lib.strCells ⟨l.toArray⟩ = Lib.byteCells l := by
  unfold Lib.strCells Lib.byteCells
  apply List.ext_getElem
  · simp
    try rfl
  · intro j h1 h2
    simp
    try rfl

/-- A string's bytes more. -/
theorem wpList_append_s {ops : Array Oper} {rest : List Oper} {o : Oper} {a : Act} {Q : Exit → Act → World → Prop} {w : World} (hgd : o.guard = none) (s x : Operand)
    (ho : o.op = .call { callee := .builtin .append, args := #[s, x], argTypes := #[36, 9] })
    (B : Nat) (v : Value) (l : List UInt8) (hs : a.eval s = v) (hown : OwnB B w v l) (m : List UInt8) (hx : a.eval x = .string ⟨m.toArray⟩)
    (hb : l.length + m.length ≤ 140737488355328) (hB : B ≤ w.heap.size)
    (h : ∀ v' w', OwnB B w' v' (l ++ m) → w.grownBy w' v.ownBlock → wpList Tryd.prog ops Q rest (a.put o.dst v') w') :
    wpList Tryd.prog ops Q (o :: rest) a w := by
  obtain ⟨i0, hi, hz0, hz1, hz2⟩ := info_parts info_b
  have hsz : (⟨m.toArray⟩ : ByteArray).size = m.length := by show m.toArray.size = _; simp
  refine Lib.wpList_append_own_string (P := Tryd.prog) (w := w) hgd s x 36 9 ho B 5 i0 Tryd.underlying36 Tryd.underlying9 hi hz0 hz1 hz2 v _ _ hs hown ⟨m.toArray⟩ hx ?_ ?_ hB ?_
  · rw [hsz]; unfold maxLen; omega
  · rw [hsz]; omega
  · intro v' w' h1 h2 _
    refine h v' w' ?_ h2
    rw [strCells_list, hsz] at h1
    unfold OwnB
    rw [List.length_append, Lib.byteCells_append]
    exact h1
end Go.Proofs.YtmgnhekpgeahmaaDoor
