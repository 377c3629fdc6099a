/- over.plain, growth, last: rules with what they captured. -/
import Derived.Test.YtoeldcgclaiokaaStep
import Derived.Test.YtoeldcgclaiokaaProg
import Derived.Test.YtoeldcgclaiokaaBox
import Derived.Lib.Hide
namespace Go.Proofs.Ytoeldcgclaiokaa
open Go.Fl Go.Rel Go.RowKit

def ruleV (p k : Int) (f : Value) : Value := .agg #[.int .i64 p, .int .i64 k, f]

/-- A rule of a function of the values alone. -/
def PlainRet (f : Value) (w : World) (e : Ending) (w' : World) : Prop :=
  ∃ B : Nat, e = .returned (ruleV 1 0 (.func (.func 45) #[] #[.pointer (some ⟨B, 0, none⟩)])) ∧ w.heap.size ≤ B ∧ w'.cell? ⟨B, 0, none⟩ = some f ∧ Below w.heap.size w w'

set_option maxHeartbeats 4000000 in
set_option maxRecDepth 100000 in
theorem plain_any (fn : Nat) (w : World) : Calls Try.prog 29 #[.func (.func fn) #[] #[]] w (PlainRet (.func (.func fn) #[] #[]) w) := by
  have hmf : ∀ (fn : Fn) (first cap : Array Value) (w : World), (Instr.makeFunc fn first cap).run Try.prog w = .ok (.func fn first cap) w := fun _ _ _ _ => rfl
  go_enter Try.func29, Try.ntmps29
  obtain ⟨w0, hw0⟩ : ∃ w0, w0 = w.alloc (.cells #[.func (.func fn) #[] #[]] 55) := ⟨_, rfl⟩
  have hsz : w0.heap.size = w.heap.size + 1 := by rw [hw0]; simp
  have hcell : w0.cell? ⟨w.heap.size, 0, none⟩ = some (.func (.func fn) #[] #[]) := by rw [hw0, World.cell?_alloc_at _ _ _ _ rfl]; rfl
  have hb0 : Below w.heap.size w w0 := by rw [hw0]; exact (Below.refl _ _).alloc (Nat.le_refl _) _
  have HW0 := Lib.hid hw0
  have HSZ := Lib.hid hsz
  have HC := Lib.hid hcell
  have HB0 := Lib.hid hb0
  clear hw0 hsz hcell hb0
  go_wp2_with (refine Bk.is_store 49 rfl ?_; rw [← HW0.out, ← HSZ.out]; refine Bk.wpList_store_box (w0 := w0) (N := 0) rfl 49 _ _ rfl #[.int .i64 1, .int .i64 0, .func (.func 45) #[] #[.pointer (some ⟨w.heap.size, 0, none⟩)]] #[.int .i64 0, .int .i64 0, .nilFunc] 49 rfl rfl (by kernel_rfl) rfl (by kernel_rfl) ?_; intro W hIs bW; have HIS := Lib.hid hIs; have BW := Lib.hid bW; clear hIs bW)
  refine Bk.ret_block HIS.out rfl rfl Try.underlying49 rfl (by kernel_rfl) rfl ?_
  exact ⟨w.heap.size, rfl, Nat.le_refl _, by rw [BW.out.cell (p := ⟨w.heap.size, 0, none⟩) (by show w.heap.size < w0.heap.size; rw [HSZ.out]; omega)]; exact HC.out, HB0.out.trans (BW.out.mono HB0.out.size)⟩

def GrowRet (c p : Bool) (w : World) (e : Ending) (w' : World) : Prop :=
  ∃ B C : Nat, e = .returned (ruleV 2 0 (.func (.func 75) #[] #[.pointer (some ⟨B, 0, none⟩), .pointer (some ⟨C, 0, none⟩)])) ∧ w.heap.size ≤ B ∧ w.heap.size ≤ C ∧ w'.cell? ⟨B, 0, none⟩ = some (.bool c) ∧ w'.cell? ⟨C, 0, none⟩ = some (.bool p) ∧ Below w.heap.size w w'
def LastRet (c : Bool) (w : World) (e : Ending) (w' : World) : Prop :=
  ∃ B : Nat, e = .returned (ruleV 2 0 (.func (.func 76) #[] #[.pointer (some ⟨B, 0, none⟩)])) ∧ w.heap.size ≤ B ∧ w'.cell? ⟨B, 0, none⟩ = some (.bool c) ∧ Below w.heap.size w w'

set_option maxHeartbeats 4000000 in
set_option maxRecDepth 100000 in
theorem growth_any (c p : Bool) (w : World) : Calls Try.prog 54 #[.bool c, .bool p] w (GrowRet c p w) := by
  have hmf : ∀ (fn : Fn) (first cap : Array Value) (w : World), (Instr.makeFunc fn first cap).run Try.prog w = .ok (.func fn first cap) w := fun _ _ _ _ => rfl
  go_enter Try.func54, Try.ntmps54
  obtain ⟨w0, hw0⟩ : ∃ w0, w0 = (w.alloc (.cells #[.bool c] 4)).alloc (.cells #[.bool p] 4) := ⟨_, rfl⟩
  have hsz : w0.heap.size = w.heap.size + 2 := by rw [hw0]; simp
  have hcell : w0.cell? ⟨w.heap.size, 0, none⟩ = some (.bool c) := by rw [hw0]; simp
  have hcell2 : w0.cell? ⟨w.heap.size + 1, 0, none⟩ = some (.bool p) := by rw [hw0]; simp
  have hb0 : Below w.heap.size w w0 := by rw [hw0]; exact ((Below.refl _ _).alloc (Nat.le_refl _) _).alloc (by simp) _
  have HW0 := Lib.hid hw0
  have HSZ := Lib.hid hsz
  have HC := Lib.hid hcell
  have HC2 := Lib.hid hcell2
  have HB0 := Lib.hid hb0
  clear hw0 hsz hcell hcell2 hb0
  go_wp2_with (refine Bk.is_store 49 rfl ?_; rw [← HW0.out, ← HSZ.out]; refine Bk.wpList_store_box (w0 := w0) (N := 0) rfl 49 _ _ rfl #[.int .i64 2, .int .i64 0, .func (.func 75) #[] #[.pointer (some ⟨w.heap.size, 0, none⟩), .pointer (some ⟨w.heap.size + 1, 0, none⟩)]] #[.int .i64 0, .int .i64 0, .nilFunc] 49 rfl rfl (by kernel_rfl) rfl (by kernel_rfl) ?_; intro W hIs bW; have HIS := Lib.hid hIs; have BW := Lib.hid bW; clear hIs bW)
  refine Bk.ret_block HIS.out rfl rfl Try.underlying49 rfl (by kernel_rfl) rfl ?_
  exact ⟨w.heap.size, w.heap.size + 1, rfl, Nat.le_refl _, by omega, by rw [BW.out.cell (p := ⟨w.heap.size, 0, none⟩) (by show w.heap.size < w0.heap.size; rw [HSZ.out]; omega)]; exact HC.out, by rw [BW.out.cell (p := ⟨w.heap.size + 1, 0, none⟩) (by show w.heap.size + 1 < w0.heap.size; rw [HSZ.out]; omega)]; exact HC2.out, HB0.out.trans (BW.out.mono HB0.out.size)⟩

set_option maxHeartbeats 4000000 in
set_option maxRecDepth 100000 in
theorem last_any (c : Bool) (w : World) : Calls Try.prog 55 #[.bool c] w (LastRet c w) := by
  have hmf : ∀ (fn : Fn) (first cap : Array Value) (w : World), (Instr.makeFunc fn first cap).run Try.prog w = .ok (.func fn first cap) w := fun _ _ _ _ => rfl
  go_enter Try.func55, Try.ntmps55
  obtain ⟨w0, hw0⟩ : ∃ w0, w0 = w.alloc (.cells #[.bool c] 4) := ⟨_, rfl⟩
  have hsz : w0.heap.size = w.heap.size + 1 := by rw [hw0]; simp
  have hcell : w0.cell? ⟨w.heap.size, 0, none⟩ = some (.bool c) := by rw [hw0]; simp
  have hb0 : Below w.heap.size w w0 := by rw [hw0]; exact (Below.refl _ _).alloc (Nat.le_refl _) _
  have HW0 := Lib.hid hw0
  have HSZ := Lib.hid hsz
  have HC := Lib.hid hcell
  have HB0 := Lib.hid hb0
  clear hw0 hsz hcell hb0
  go_wp2_with (refine Bk.is_store 49 rfl ?_; rw [← HW0.out, ← HSZ.out]; refine Bk.wpList_store_box (w0 := w0) (N := 0) rfl 49 _ _ rfl #[.int .i64 2, .int .i64 0, .func (.func 76) #[] #[.pointer (some ⟨w.heap.size, 0, none⟩)]] #[.int .i64 0, .int .i64 0, .nilFunc] 49 rfl rfl (by kernel_rfl) rfl (by kernel_rfl) ?_; intro W hIs bW; have HIS := Lib.hid hIs; have BW := Lib.hid bW; clear hIs bW)
  refine Bk.ret_block HIS.out rfl rfl Try.underlying49 rfl (by kernel_rfl) rfl ?_
  exact ⟨w.heap.size, rfl, Nat.le_refl _, by rw [BW.out.cell (p := ⟨w.heap.size, 0, none⟩) (by show w.heap.size < w0.heap.size; rw [HSZ.out]; omega)]; exact HC.out, HB0.out.trans (BW.out.mono HB0.out.size)⟩
end Go.Proofs.Ytoeldcgclaiokaa
