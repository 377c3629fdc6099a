/- over.plain, growth, last: rules with what they captured. over.find at each name. -/
import Derived.Test.YtoeldcgclaiokaaGreatStep
import Derived.Test.YtoeldcgclaiokaaGreatProg
import Derived.Test.YtoeldcgclaiokaaGreatBox
import Derived.Lib.Hide
namespace Go.Proofs.YtoeldcgclaiokaaGreat
open Go.Fl Go.Rel Go.RowKit

def ruleV (p k : Int) (f : Value) : Value := .agg #[.int .i64 p, .int .i64 k, f]

/-- A rule of a function of the values alone. -/
def PlainRet (f : Value) (w : World) (e : Ending) (w' : World) : Prop :=
  ∃ B : Nat, e = .returned (ruleV 1 0 (.func (.func 67) #[] #[.pointer (some ⟨B, 0, none⟩)])) ∧ w.heap.size ≤ B ∧ w'.cell? ⟨B, 0, none⟩ = some f ∧ Below w.heap.size w w'

set_option maxHeartbeats 4000000 in
set_option maxRecDepth 100000 in
theorem plain_any (fn : Nat) (w : World) : Calls Tryz.prog 40 #[.func (.func fn) #[] #[]] w (PlainRet (.func (.func fn) #[] #[]) w) := by
  have hmf : ∀ (fn : Fn) (first cap : Array Value) (w : World), (Instr.makeFunc fn first cap).run Tryz.prog w = .ok (.func fn first cap) w := fun _ _ _ _ => rfl
  go_enter Tryz.func40, Tryz.ntmps40
  obtain ⟨w0, hw0⟩ : ∃ w0, w0 = w.alloc (.cells #[.func (.func fn) #[] #[]] 57) := ⟨_, rfl⟩
  have hsz : w0.heap.size = w.heap.size + 1 := by rw [hw0]; simp
  have hcell : w0.cell? ⟨w.heap.size, 0, none⟩ = some (.func (.func fn) #[] #[]) := by rw [hw0, World.cell?_alloc_at _ _ _ _ rfl]; rfl
  have hb0 : Below w.heap.size w w0 := by rw [hw0]; exact (Below.refl _ _).alloc (Nat.le_refl _) _
  have HW0 := Lib.hid hw0
  have HSZ := Lib.hid hsz
  have HC := Lib.hid hcell
  have HB0 := Lib.hid hb0
  clear hw0 hsz hcell hb0
  go_wp2_with (refine Bk.is_store 50 rfl ?_; rw [← HW0.out, ← HSZ.out]; refine Bk.wpList_store_box (w0 := w0) (N := 0) rfl 50 _ _ rfl #[.int .i64 1, .int .i64 0, .func (.func 67) #[] #[.pointer (some ⟨w.heap.size, 0, none⟩)]] #[.int .i64 0, .int .i64 0, .nilFunc] 50 rfl rfl (by kernel_rfl) rfl (by kernel_rfl) ?_; intro W hIs bW; have HIS := Lib.hid hIs; have BW := Lib.hid bW; clear hIs bW)
  refine Bk.ret_block HIS.out rfl rfl Tryz.underlying50 rfl (by kernel_rfl) rfl ?_
  exact ⟨w.heap.size, rfl, Nat.le_refl _, by rw [BW.out.cell (p := ⟨w.heap.size, 0, none⟩) (by show w.heap.size < w0.heap.size; rw [HSZ.out]; omega)]; exact HC.out, HB0.out.trans (BW.out.mono HB0.out.size)⟩

def GrowRet (c p : Bool) (w : World) (e : Ending) (w' : World) : Prop :=
  ∃ B C : Nat, e = .returned (ruleV 2 0 (.func (.func 97) #[] #[.pointer (some ⟨B, 0, none⟩), .pointer (some ⟨C, 0, none⟩)])) ∧ w.heap.size ≤ B ∧ w.heap.size ≤ C ∧ w'.cell? ⟨B, 0, none⟩ = some (.bool c) ∧ w'.cell? ⟨C, 0, none⟩ = some (.bool p) ∧ Below w.heap.size w w'
def LastRet (c : Bool) (w : World) (e : Ending) (w' : World) : Prop :=
  ∃ B : Nat, e = .returned (ruleV 2 0 (.func (.func 98) #[] #[.pointer (some ⟨B, 0, none⟩)])) ∧ w.heap.size ≤ B ∧ w'.cell? ⟨B, 0, none⟩ = some (.bool c) ∧ Below w.heap.size w w'

set_option maxHeartbeats 4000000 in
set_option maxRecDepth 100000 in
theorem growth_any (c p : Bool) (w : World) : Calls Tryz.prog 73 #[.bool c, .bool p] w (GrowRet c p w) := by
  have hmf : ∀ (fn : Fn) (first cap : Array Value) (w : World), (Instr.makeFunc fn first cap).run Tryz.prog w = .ok (.func fn first cap) w := fun _ _ _ _ => rfl
  go_enter Tryz.func73, Tryz.ntmps73
  obtain ⟨w0, hw0⟩ : ∃ w0, w0 = (w.alloc (.cells #[.bool c] 4)).alloc (.cells #[.bool p] 4) := ⟨_, rfl⟩
  have hsz : w0.heap.size = w.heap.size + 2 := by rw [hw0]; simp
  have hcell : w0.cell? ⟨w.heap.size, 0, none⟩ = some (.bool c) := by rw [hw0]; simp
  have hcell2 : w0.cell? ⟨w.heap.size + 1, 0, none⟩ = some (.bool p) := by rw [hw0]; simp
  have hb0 : Below w.heap.size w w0 := by rw [hw0]; exact ((Below.refl _ _).alloc (Nat.le_refl _) _).alloc (by simp) _
  have HW0 := Lib.hid hw0
  have HSZ := Lib.hid hsz
  have HC := Lib.hid hcell
  have HC2 := Lib.hid hcell2
  have HB0 := Lib.hid hb0
  clear hw0 hsz hcell hcell2 hb0
  go_wp2_with (refine Bk.is_store 50 rfl ?_; rw [← HW0.out, ← HSZ.out]; refine Bk.wpList_store_box (w0 := w0) (N := 0) rfl 50 _ _ rfl #[.int .i64 2, .int .i64 0, .func (.func 97) #[] #[.pointer (some ⟨w.heap.size, 0, none⟩), .pointer (some ⟨w.heap.size + 1, 0, none⟩)]] #[.int .i64 0, .int .i64 0, .nilFunc] 50 rfl rfl (by kernel_rfl) rfl (by kernel_rfl) ?_; intro W hIs bW; have HIS := Lib.hid hIs; have BW := Lib.hid bW; clear hIs bW)
  refine Bk.ret_block HIS.out rfl rfl Tryz.underlying50 rfl (by kernel_rfl) rfl ?_
  exact ⟨w.heap.size, w.heap.size + 1, rfl, Nat.le_refl _, by omega, by rw [BW.out.cell (p := ⟨w.heap.size, 0, none⟩) (by show w.heap.size < w0.heap.size; rw [HSZ.out]; omega)]; exact HC.out, by rw [BW.out.cell (p := ⟨w.heap.size + 1, 0, none⟩) (by show w.heap.size + 1 < w0.heap.size; rw [HSZ.out]; omega)]; exact HC2.out, HB0.out.trans (BW.out.mono HB0.out.size)⟩

set_option maxHeartbeats 4000000 in
set_option maxRecDepth 100000 in
theorem last_any (c : Bool) (w : World) : Calls Tryz.prog 74 #[.bool c] w (LastRet c w) := by
  have hmf : ∀ (fn : Fn) (first cap : Array Value) (w : World), (Instr.makeFunc fn first cap).run Tryz.prog w = .ok (.func fn first cap) w := fun _ _ _ _ => rfl
  go_enter Tryz.func74, Tryz.ntmps74
  obtain ⟨w0, hw0⟩ : ∃ w0, w0 = w.alloc (.cells #[.bool c] 4) := ⟨_, rfl⟩
  have hsz : w0.heap.size = w.heap.size + 1 := by rw [hw0]; simp
  have hcell : w0.cell? ⟨w.heap.size, 0, none⟩ = some (.bool c) := by rw [hw0]; simp
  have hb0 : Below w.heap.size w w0 := by rw [hw0]; exact (Below.refl _ _).alloc (Nat.le_refl _) _
  have HW0 := Lib.hid hw0
  have HSZ := Lib.hid hsz
  have HC := Lib.hid hcell
  have HB0 := Lib.hid hb0
  clear hw0 hsz hcell hb0
  go_wp2_with (refine Bk.is_store 50 rfl ?_; rw [← HW0.out, ← HSZ.out]; refine Bk.wpList_store_box (w0 := w0) (N := 0) rfl 50 _ _ rfl #[.int .i64 2, .int .i64 0, .func (.func 98) #[] #[.pointer (some ⟨w.heap.size, 0, none⟩)]] #[.int .i64 0, .int .i64 0, .nilFunc] 50 rfl rfl (by kernel_rfl) rfl (by kernel_rfl) ?_; intro W hIs bW; have HIS := Lib.hid hIs; have BW := Lib.hid bW; clear hIs bW)
  refine Bk.ret_block HIS.out rfl rfl Tryz.underlying50 rfl (by kernel_rfl) rfl ?_
  exact ⟨w.heap.size, rfl, Nat.le_refl _, by rw [BW.out.cell (p := ⟨w.heap.size, 0, none⟩) (by show w.heap.size < w0.heap.size; rw [HSZ.out]; omega)]; exact HC.out, HB0.out.trans (BW.out.mono HB0.out.size)⟩
end Go.Proofs.YtoeldcgclaiokaaGreat

namespace Go.Proofs.YtoeldcgclaiokaaGreat
open Go.Fl Go.Rel Go.RowKit

theorem setRow_old {w : World} {g : Nat} {vs : Array Value} {B j : Nat} (h : B ≠ g) : (w.setRow g vs).cell? ⟨B, j, none⟩ = w.cell? ⟨B, j, none⟩ := by
  unfold World.setRow World.cell?
  simp [Array.getElem?_modify, Ne.symm h]

set_option maxHeartbeats 4000000 in
set_option maxRecDepth 100000 in
theorem find_count_over_time (w : World) : Calls Tryz.prog 22 #[.string ⟨#[99, 111, 117, 110, 116, 95, 111, 118, 101, 114, 95, 116, 105, 109, 101]⟩] w (PlainRet (.func (.func 41) #[] #[]) w) := by
  have HP : Hid (∀ w1, Calls Tryz.prog 40 #[.func (.func 41) #[] #[]] w1 (PlainRet (.func (.func 41) #[] #[]) w1)) := fun w1 => plain_any _ w1
  go_enter Tryz.func22, Tryz.ntmps22
  have HM : Hid (Bk.Is (w.alloc (.cells #[.int .i64 0, .int .i64 0, .nilFunc] 50)) w.heap.size #[.int .i64 0, .int .i64 0, .nilFunc] 50) := Bk.Is.made w _ _
  go_wp2_with (first | (go_at_call 40; ((with_reducible refine (HP.out _).mono ?_); rintro e w1 ⟨B, rfl, hB, hc, b1⟩; unfold ruleV; have HI := Lib.hid (HM.out.below b1 (by simp)); have HBB := Lib.hid hB; have HC := Lib.hid hc; have B1 := Lib.hid b1; clear hB hc b1)) | (refine Bk.is_store 50 rfl ?_; refine wpList_store_row rfl 50 _ _ rfl w.heap.size #[.int .i64 1, .int .i64 0, .func (.func 67) #[] #[.pointer (some ⟨B, 0, none⟩)]] rfl rfl 50 #[.int .i64 0, .int .i64 0, .nilFunc] HI.out (by kernel_rfl) rfl (by kernel_rfl) ?_))
  refine Bk.ret_block (HI.out.setRow _) rfl rfl Tryz.underlying50 rfl (by kernel_rfl) rfl ?_
  have hB := HBB.out
  simp at hB
  exact ⟨B, rfl, by omega, by rw [setRow_old (by omega)]; exact HC.out, Bk.below_setRow (((Below.refl _ _).alloc (Nat.le_refl _) _).trans (B1.out.mono (by simp))) (Nat.le_refl _) _⟩

set_option maxHeartbeats 4000000 in
set_option maxRecDepth 100000 in
theorem find_present_over_time (w : World) : Calls Tryz.prog 22 #[.string ⟨#[112, 114, 101, 115, 101, 110, 116, 95, 111, 118, 101, 114, 95, 116, 105, 109, 101]⟩] w (PlainRet (.func (.func 42) #[] #[]) w) := by
  have HP : Hid (∀ w1, Calls Tryz.prog 40 #[.func (.func 42) #[] #[]] w1 (PlainRet (.func (.func 42) #[] #[]) w1)) := fun w1 => plain_any _ w1
  go_enter Tryz.func22, Tryz.ntmps22
  have HM : Hid (Bk.Is (w.alloc (.cells #[.int .i64 0, .int .i64 0, .nilFunc] 50)) w.heap.size #[.int .i64 0, .int .i64 0, .nilFunc] 50) := Bk.Is.made w _ _
  go_wp2_with (first | (go_at_call 40; ((with_reducible refine (HP.out _).mono ?_); rintro e w1 ⟨B, rfl, hB, hc, b1⟩; unfold ruleV; have HI := Lib.hid (HM.out.below b1 (by simp)); have HBB := Lib.hid hB; have HC := Lib.hid hc; have B1 := Lib.hid b1; clear hB hc b1)) | (refine Bk.is_store 50 rfl ?_; refine wpList_store_row rfl 50 _ _ rfl w.heap.size #[.int .i64 1, .int .i64 0, .func (.func 67) #[] #[.pointer (some ⟨B, 0, none⟩)]] rfl rfl 50 #[.int .i64 0, .int .i64 0, .nilFunc] HI.out (by kernel_rfl) rfl (by kernel_rfl) ?_))
  refine Bk.ret_block (HI.out.setRow _) rfl rfl Tryz.underlying50 rfl (by kernel_rfl) rfl ?_
  have hB := HBB.out
  simp at hB
  exact ⟨B, rfl, by omega, by rw [setRow_old (by omega)]; exact HC.out, Bk.below_setRow (((Below.refl _ _).alloc (Nat.le_refl _) _).trans (B1.out.mono (by simp))) (Nat.le_refl _) _⟩

set_option maxHeartbeats 4000000 in
set_option maxRecDepth 100000 in
theorem find_first_over_time (w : World) : Calls Tryz.prog 22 #[.string ⟨#[102, 105, 114, 115, 116, 95, 111, 118, 101, 114, 95, 116, 105, 109, 101]⟩] w (PlainRet (.func (.func 43) #[] #[]) w) := by
  have HP : Hid (∀ w1, Calls Tryz.prog 40 #[.func (.func 43) #[] #[]] w1 (PlainRet (.func (.func 43) #[] #[]) w1)) := fun w1 => plain_any _ w1
  go_enter Tryz.func22, Tryz.ntmps22
  have HM : Hid (Bk.Is (w.alloc (.cells #[.int .i64 0, .int .i64 0, .nilFunc] 50)) w.heap.size #[.int .i64 0, .int .i64 0, .nilFunc] 50) := Bk.Is.made w _ _
  go_wp2_with (first | (go_at_call 40; ((with_reducible refine (HP.out _).mono ?_); rintro e w1 ⟨B, rfl, hB, hc, b1⟩; unfold ruleV; have HI := Lib.hid (HM.out.below b1 (by simp)); have HBB := Lib.hid hB; have HC := Lib.hid hc; have B1 := Lib.hid b1; clear hB hc b1)) | (refine Bk.is_store 50 rfl ?_; refine wpList_store_row rfl 50 _ _ rfl w.heap.size #[.int .i64 1, .int .i64 0, .func (.func 67) #[] #[.pointer (some ⟨B, 0, none⟩)]] rfl rfl 50 #[.int .i64 0, .int .i64 0, .nilFunc] HI.out (by kernel_rfl) rfl (by kernel_rfl) ?_))
  refine Bk.ret_block (HI.out.setRow _) rfl rfl Tryz.underlying50 rfl (by kernel_rfl) rfl ?_
  have hB := HBB.out
  simp at hB
  exact ⟨B, rfl, by omega, by rw [setRow_old (by omega)]; exact HC.out, Bk.below_setRow (((Below.refl _ _).alloc (Nat.le_refl _) _).trans (B1.out.mono (by simp))) (Nat.le_refl _) _⟩

set_option maxHeartbeats 4000000 in
set_option maxRecDepth 100000 in
theorem find_last_over_time (w : World) : Calls Tryz.prog 22 #[.string ⟨#[108, 97, 115, 116, 95, 111, 118, 101, 114, 95, 116, 105, 109, 101]⟩] w (PlainRet (.func (.func 44) #[] #[]) w) := by
  have HP : Hid (∀ w1, Calls Tryz.prog 40 #[.func (.func 44) #[] #[]] w1 (PlainRet (.func (.func 44) #[] #[]) w1)) := fun w1 => plain_any _ w1
  go_enter Tryz.func22, Tryz.ntmps22
  have HM : Hid (Bk.Is (w.alloc (.cells #[.int .i64 0, .int .i64 0, .nilFunc] 50)) w.heap.size #[.int .i64 0, .int .i64 0, .nilFunc] 50) := Bk.Is.made w _ _
  go_wp2_with (first | (go_at_call 40; ((with_reducible refine (HP.out _).mono ?_); rintro e w1 ⟨B, rfl, hB, hc, b1⟩; unfold ruleV; have HI := Lib.hid (HM.out.below b1 (by simp)); have HBB := Lib.hid hB; have HC := Lib.hid hc; have B1 := Lib.hid b1; clear hB hc b1)) | (refine Bk.is_store 50 rfl ?_; refine wpList_store_row rfl 50 _ _ rfl w.heap.size #[.int .i64 1, .int .i64 0, .func (.func 67) #[] #[.pointer (some ⟨B, 0, none⟩)]] rfl rfl 50 #[.int .i64 0, .int .i64 0, .nilFunc] HI.out (by kernel_rfl) rfl (by kernel_rfl) ?_))
  refine Bk.ret_block (HI.out.setRow _) rfl rfl Tryz.underlying50 rfl (by kernel_rfl) rfl ?_
  have hB := HBB.out
  simp at hB
  exact ⟨B, rfl, by omega, by rw [setRow_old (by omega)]; exact HC.out, Bk.below_setRow (((Below.refl _ _).alloc (Nat.le_refl _) _).trans (B1.out.mono (by simp))) (Nat.le_refl _) _⟩

set_option maxHeartbeats 4000000 in
set_option maxRecDepth 100000 in
theorem find_sum_over_time (w : World) : Calls Tryz.prog 22 #[.string ⟨#[115, 117, 109, 95, 111, 118, 101, 114, 95, 116, 105, 109, 101]⟩] w (PlainRet (.func (.func 45) #[] #[]) w) := by
  have HP : Hid (∀ w1, Calls Tryz.prog 40 #[.func (.func 45) #[] #[]] w1 (PlainRet (.func (.func 45) #[] #[]) w1)) := fun w1 => plain_any _ w1
  go_enter Tryz.func22, Tryz.ntmps22
  have HM : Hid (Bk.Is (w.alloc (.cells #[.int .i64 0, .int .i64 0, .nilFunc] 50)) w.heap.size #[.int .i64 0, .int .i64 0, .nilFunc] 50) := Bk.Is.made w _ _
  go_wp2_with (first | (go_at_call 40; ((with_reducible refine (HP.out _).mono ?_); rintro e w1 ⟨B, rfl, hB, hc, b1⟩; unfold ruleV; have HI := Lib.hid (HM.out.below b1 (by simp)); have HBB := Lib.hid hB; have HC := Lib.hid hc; have B1 := Lib.hid b1; clear hB hc b1)) | (refine Bk.is_store 50 rfl ?_; refine wpList_store_row rfl 50 _ _ rfl w.heap.size #[.int .i64 1, .int .i64 0, .func (.func 67) #[] #[.pointer (some ⟨B, 0, none⟩)]] rfl rfl 50 #[.int .i64 0, .int .i64 0, .nilFunc] HI.out (by kernel_rfl) rfl (by kernel_rfl) ?_))
  refine Bk.ret_block (HI.out.setRow _) rfl rfl Tryz.underlying50 rfl (by kernel_rfl) rfl ?_
  have hB := HBB.out
  simp at hB
  exact ⟨B, rfl, by omega, by rw [setRow_old (by omega)]; exact HC.out, Bk.below_setRow (((Below.refl _ _).alloc (Nat.le_refl _) _).trans (B1.out.mono (by simp))) (Nat.le_refl _) _⟩

set_option maxHeartbeats 4000000 in
set_option maxRecDepth 100000 in
theorem find_avg_over_time (w : World) : Calls Tryz.prog 22 #[.string ⟨#[97, 118, 103, 95, 111, 118, 101, 114, 95, 116, 105, 109, 101]⟩] w (PlainRet (.func (.func 46) #[] #[]) w) := by
  have HP : Hid (∀ w1, Calls Tryz.prog 40 #[.func (.func 46) #[] #[]] w1 (PlainRet (.func (.func 46) #[] #[]) w1)) := fun w1 => plain_any _ w1
  go_enter Tryz.func22, Tryz.ntmps22
  have HM : Hid (Bk.Is (w.alloc (.cells #[.int .i64 0, .int .i64 0, .nilFunc] 50)) w.heap.size #[.int .i64 0, .int .i64 0, .nilFunc] 50) := Bk.Is.made w _ _
  go_wp2_with (first | (go_at_call 40; ((with_reducible refine (HP.out _).mono ?_); rintro e w1 ⟨B, rfl, hB, hc, b1⟩; unfold ruleV; have HI := Lib.hid (HM.out.below b1 (by simp)); have HBB := Lib.hid hB; have HC := Lib.hid hc; have B1 := Lib.hid b1; clear hB hc b1)) | (refine Bk.is_store 50 rfl ?_; refine wpList_store_row rfl 50 _ _ rfl w.heap.size #[.int .i64 1, .int .i64 0, .func (.func 67) #[] #[.pointer (some ⟨B, 0, none⟩)]] rfl rfl 50 #[.int .i64 0, .int .i64 0, .nilFunc] HI.out (by kernel_rfl) rfl (by kernel_rfl) ?_))
  refine Bk.ret_block (HI.out.setRow _) rfl rfl Tryz.underlying50 rfl (by kernel_rfl) rfl ?_
  have hB := HBB.out
  simp at hB
  exact ⟨B, rfl, by omega, by rw [setRow_old (by omega)]; exact HC.out, Bk.below_setRow (((Below.refl _ _).alloc (Nat.le_refl _) _).trans (B1.out.mono (by simp))) (Nat.le_refl _) _⟩

set_option maxHeartbeats 4000000 in
set_option maxRecDepth 100000 in
theorem find_stddev_over_time (w : World) : Calls Tryz.prog 22 #[.string ⟨#[115, 116, 100, 100, 101, 118, 95, 111, 118, 101, 114, 95, 116, 105, 109, 101]⟩] w (PlainRet (.func (.func 47) #[] #[]) w) := by
  have HP : Hid (∀ w1, Calls Tryz.prog 40 #[.func (.func 47) #[] #[]] w1 (PlainRet (.func (.func 47) #[] #[]) w1)) := fun w1 => plain_any _ w1
  go_enter Tryz.func22, Tryz.ntmps22
  have HM : Hid (Bk.Is (w.alloc (.cells #[.int .i64 0, .int .i64 0, .nilFunc] 50)) w.heap.size #[.int .i64 0, .int .i64 0, .nilFunc] 50) := Bk.Is.made w _ _
  go_wp2_with (first | (go_at_call 40; ((with_reducible refine (HP.out _).mono ?_); rintro e w1 ⟨B, rfl, hB, hc, b1⟩; unfold ruleV; have HI := Lib.hid (HM.out.below b1 (by simp)); have HBB := Lib.hid hB; have HC := Lib.hid hc; have B1 := Lib.hid b1; clear hB hc b1)) | (refine Bk.is_store 50 rfl ?_; refine wpList_store_row rfl 50 _ _ rfl w.heap.size #[.int .i64 1, .int .i64 0, .func (.func 67) #[] #[.pointer (some ⟨B, 0, none⟩)]] rfl rfl 50 #[.int .i64 0, .int .i64 0, .nilFunc] HI.out (by kernel_rfl) rfl (by kernel_rfl) ?_))
  refine Bk.ret_block (HI.out.setRow _) rfl rfl Tryz.underlying50 rfl (by kernel_rfl) rfl ?_
  have hB := HBB.out
  simp at hB
  exact ⟨B, rfl, by omega, by rw [setRow_old (by omega)]; exact HC.out, Bk.below_setRow (((Below.refl _ _).alloc (Nat.le_refl _) _).trans (B1.out.mono (by simp))) (Nat.le_refl _) _⟩

set_option maxHeartbeats 4000000 in
set_option maxRecDepth 100000 in
theorem find_stdvar_over_time (w : World) : Calls Tryz.prog 22 #[.string ⟨#[115, 116, 100, 118, 97, 114, 95, 111, 118, 101, 114, 95, 116, 105, 109, 101]⟩] w (PlainRet (.func (.func 48) #[] #[]) w) := by
  have HP : Hid (∀ w1, Calls Tryz.prog 40 #[.func (.func 48) #[] #[]] w1 (PlainRet (.func (.func 48) #[] #[]) w1)) := fun w1 => plain_any _ w1
  go_enter Tryz.func22, Tryz.ntmps22
  have HM : Hid (Bk.Is (w.alloc (.cells #[.int .i64 0, .int .i64 0, .nilFunc] 50)) w.heap.size #[.int .i64 0, .int .i64 0, .nilFunc] 50) := Bk.Is.made w _ _
  go_wp2_with (first | (go_at_call 40; ((with_reducible refine (HP.out _).mono ?_); rintro e w1 ⟨B, rfl, hB, hc, b1⟩; unfold ruleV; have HI := Lib.hid (HM.out.below b1 (by simp)); have HBB := Lib.hid hB; have HC := Lib.hid hc; have B1 := Lib.hid b1; clear hB hc b1)) | (refine Bk.is_store 50 rfl ?_; refine wpList_store_row rfl 50 _ _ rfl w.heap.size #[.int .i64 1, .int .i64 0, .func (.func 67) #[] #[.pointer (some ⟨B, 0, none⟩)]] rfl rfl 50 #[.int .i64 0, .int .i64 0, .nilFunc] HI.out (by kernel_rfl) rfl (by kernel_rfl) ?_))
  refine Bk.ret_block (HI.out.setRow _) rfl rfl Tryz.underlying50 rfl (by kernel_rfl) rfl ?_
  have hB := HBB.out
  simp at hB
  exact ⟨B, rfl, by omega, by rw [setRow_old (by omega)]; exact HC.out, Bk.below_setRow (((Below.refl _ _).alloc (Nat.le_refl _) _).trans (B1.out.mono (by simp))) (Nat.le_refl _) _⟩

set_option maxHeartbeats 4000000 in
set_option maxRecDepth 100000 in
theorem find_max_over_time (w : World) : Calls Tryz.prog 22 #[.string ⟨#[109, 97, 120, 95, 111, 118, 101, 114, 95, 116, 105, 109, 101]⟩] w (PlainRet (.func (.func 49) #[] #[]) w) := by
  have HP : Hid (∀ w1, Calls Tryz.prog 40 #[.func (.func 49) #[] #[]] w1 (PlainRet (.func (.func 49) #[] #[]) w1)) := fun w1 => plain_any _ w1
  go_enter Tryz.func22, Tryz.ntmps22
  have HM : Hid (Bk.Is (w.alloc (.cells #[.int .i64 0, .int .i64 0, .nilFunc] 50)) w.heap.size #[.int .i64 0, .int .i64 0, .nilFunc] 50) := Bk.Is.made w _ _
  go_wp2_with (first | (go_at_call 40; ((with_reducible refine (HP.out _).mono ?_); rintro e w1 ⟨B, rfl, hB, hc, b1⟩; unfold ruleV; have HI := Lib.hid (HM.out.below b1 (by simp)); have HBB := Lib.hid hB; have HC := Lib.hid hc; have B1 := Lib.hid b1; clear hB hc b1)) | (refine Bk.is_store 50 rfl ?_; refine wpList_store_row rfl 50 _ _ rfl w.heap.size #[.int .i64 1, .int .i64 0, .func (.func 67) #[] #[.pointer (some ⟨B, 0, none⟩)]] rfl rfl 50 #[.int .i64 0, .int .i64 0, .nilFunc] HI.out (by kernel_rfl) rfl (by kernel_rfl) ?_))
  refine Bk.ret_block (HI.out.setRow _) rfl rfl Tryz.underlying50 rfl (by kernel_rfl) rfl ?_
  have hB := HBB.out
  simp at hB
  exact ⟨B, rfl, by omega, by rw [setRow_old (by omega)]; exact HC.out, Bk.below_setRow (((Below.refl _ _).alloc (Nat.le_refl _) _).trans (B1.out.mono (by simp))) (Nat.le_refl _) _⟩

set_option maxHeartbeats 4000000 in
set_option maxRecDepth 100000 in
theorem find_min_over_time (w : World) : Calls Tryz.prog 22 #[.string ⟨#[109, 105, 110, 95, 111, 118, 101, 114, 95, 116, 105, 109, 101]⟩] w (PlainRet (.func (.func 51) #[] #[]) w) := by
  have HP : Hid (∀ w1, Calls Tryz.prog 40 #[.func (.func 51) #[] #[]] w1 (PlainRet (.func (.func 51) #[] #[]) w1)) := fun w1 => plain_any _ w1
  go_enter Tryz.func22, Tryz.ntmps22
  have HM : Hid (Bk.Is (w.alloc (.cells #[.int .i64 0, .int .i64 0, .nilFunc] 50)) w.heap.size #[.int .i64 0, .int .i64 0, .nilFunc] 50) := Bk.Is.made w _ _
  go_wp2_with (first | (go_at_call 40; ((with_reducible refine (HP.out _).mono ?_); rintro e w1 ⟨B, rfl, hB, hc, b1⟩; unfold ruleV; have HI := Lib.hid (HM.out.below b1 (by simp)); have HBB := Lib.hid hB; have HC := Lib.hid hc; have B1 := Lib.hid b1; clear hB hc b1)) | (refine Bk.is_store 50 rfl ?_; refine wpList_store_row rfl 50 _ _ rfl w.heap.size #[.int .i64 1, .int .i64 0, .func (.func 67) #[] #[.pointer (some ⟨B, 0, none⟩)]] rfl rfl 50 #[.int .i64 0, .int .i64 0, .nilFunc] HI.out (by kernel_rfl) rfl (by kernel_rfl) ?_))
  refine Bk.ret_block (HI.out.setRow _) rfl rfl Tryz.underlying50 rfl (by kernel_rfl) rfl ?_
  have hB := HBB.out
  simp at hB
  exact ⟨B, rfl, by omega, by rw [setRow_old (by omega)]; exact HC.out, Bk.below_setRow (((Below.refl _ _).alloc (Nat.le_refl _) _).trans (B1.out.mono (by simp))) (Nat.le_refl _) _⟩

set_option maxHeartbeats 4000000 in
set_option maxRecDepth 100000 in
theorem find_mad_over_time (w : World) : Calls Tryz.prog 22 #[.string ⟨#[109, 97, 100, 95, 111, 118, 101, 114, 95, 116, 105, 109, 101]⟩] w (PlainRet (.func (.func 52) #[] #[]) w) := by
  have HP : Hid (∀ w1, Calls Tryz.prog 40 #[.func (.func 52) #[] #[]] w1 (PlainRet (.func (.func 52) #[] #[]) w1)) := fun w1 => plain_any _ w1
  go_enter Tryz.func22, Tryz.ntmps22
  have HM : Hid (Bk.Is (w.alloc (.cells #[.int .i64 0, .int .i64 0, .nilFunc] 50)) w.heap.size #[.int .i64 0, .int .i64 0, .nilFunc] 50) := Bk.Is.made w _ _
  go_wp2_with (first | (go_at_call 40; ((with_reducible refine (HP.out _).mono ?_); rintro e w1 ⟨B, rfl, hB, hc, b1⟩; unfold ruleV; have HI := Lib.hid (HM.out.below b1 (by simp)); have HBB := Lib.hid hB; have HC := Lib.hid hc; have B1 := Lib.hid b1; clear hB hc b1)) | (refine Bk.is_store 50 rfl ?_; refine wpList_store_row rfl 50 _ _ rfl w.heap.size #[.int .i64 1, .int .i64 0, .func (.func 67) #[] #[.pointer (some ⟨B, 0, none⟩)]] rfl rfl 50 #[.int .i64 0, .int .i64 0, .nilFunc] HI.out (by kernel_rfl) rfl (by kernel_rfl) ?_))
  refine Bk.ret_block (HI.out.setRow _) rfl rfl Tryz.underlying50 rfl (by kernel_rfl) rfl ?_
  have hB := HBB.out
  simp at hB
  exact ⟨B, rfl, by omega, by rw [setRow_old (by omega)]; exact HC.out, Bk.below_setRow (((Below.refl _ _).alloc (Nat.le_refl _) _).trans (B1.out.mono (by simp))) (Nat.le_refl _) _⟩

set_option maxHeartbeats 4000000 in
set_option maxRecDepth 100000 in
theorem find_changes (w : World) : Calls Tryz.prog 22 #[.string ⟨#[99, 104, 97, 110, 103, 101, 115]⟩] w (PlainRet (.func (.func 53) #[] #[]) w) := by
  have HP : Hid (∀ w1, Calls Tryz.prog 40 #[.func (.func 53) #[] #[]] w1 (PlainRet (.func (.func 53) #[] #[]) w1)) := fun w1 => plain_any _ w1
  go_enter Tryz.func22, Tryz.ntmps22
  have HM : Hid (Bk.Is (w.alloc (.cells #[.int .i64 0, .int .i64 0, .nilFunc] 50)) w.heap.size #[.int .i64 0, .int .i64 0, .nilFunc] 50) := Bk.Is.made w _ _
  go_wp2_with (first | (go_at_call 40; ((with_reducible refine (HP.out _).mono ?_); rintro e w1 ⟨B, rfl, hB, hc, b1⟩; unfold ruleV; have HI := Lib.hid (HM.out.below b1 (by simp)); have HBB := Lib.hid hB; have HC := Lib.hid hc; have B1 := Lib.hid b1; clear hB hc b1)) | (refine Bk.is_store 50 rfl ?_; refine wpList_store_row rfl 50 _ _ rfl w.heap.size #[.int .i64 1, .int .i64 0, .func (.func 67) #[] #[.pointer (some ⟨B, 0, none⟩)]] rfl rfl 50 #[.int .i64 0, .int .i64 0, .nilFunc] HI.out (by kernel_rfl) rfl (by kernel_rfl) ?_))
  refine Bk.ret_block (HI.out.setRow _) rfl rfl Tryz.underlying50 rfl (by kernel_rfl) rfl ?_
  have hB := HBB.out
  simp at hB
  exact ⟨B, rfl, by omega, by rw [setRow_old (by omega)]; exact HC.out, Bk.below_setRow (((Below.refl _ _).alloc (Nat.le_refl _) _).trans (B1.out.mono (by simp))) (Nat.le_refl _) _⟩

set_option maxHeartbeats 4000000 in
set_option maxRecDepth 100000 in
theorem find_resets (w : World) : Calls Tryz.prog 22 #[.string ⟨#[114, 101, 115, 101, 116, 115]⟩] w (PlainRet (.func (.func 54) #[] #[]) w) := by
  have HP : Hid (∀ w1, Calls Tryz.prog 40 #[.func (.func 54) #[] #[]] w1 (PlainRet (.func (.func 54) #[] #[]) w1)) := fun w1 => plain_any _ w1
  go_enter Tryz.func22, Tryz.ntmps22
  have HM : Hid (Bk.Is (w.alloc (.cells #[.int .i64 0, .int .i64 0, .nilFunc] 50)) w.heap.size #[.int .i64 0, .int .i64 0, .nilFunc] 50) := Bk.Is.made w _ _
  go_wp2_with (first | (go_at_call 40; ((with_reducible refine (HP.out _).mono ?_); rintro e w1 ⟨B, rfl, hB, hc, b1⟩; unfold ruleV; have HI := Lib.hid (HM.out.below b1 (by simp)); have HBB := Lib.hid hB; have HC := Lib.hid hc; have B1 := Lib.hid b1; clear hB hc b1)) | (refine Bk.is_store 50 rfl ?_; refine wpList_store_row rfl 50 _ _ rfl w.heap.size #[.int .i64 1, .int .i64 0, .func (.func 67) #[] #[.pointer (some ⟨B, 0, none⟩)]] rfl rfl 50 #[.int .i64 0, .int .i64 0, .nilFunc] HI.out (by kernel_rfl) rfl (by kernel_rfl) ?_))
  refine Bk.ret_block (HI.out.setRow _) rfl rfl Tryz.underlying50 rfl (by kernel_rfl) rfl ?_
  have hB := HBB.out
  simp at hB
  exact ⟨B, rfl, by omega, by rw [setRow_old (by omega)]; exact HC.out, Bk.below_setRow (((Below.refl _ _).alloc (Nat.le_refl _) _).trans (B1.out.mono (by simp))) (Nat.le_refl _) _⟩

def RuleRet (p k : Int) (fn : Nat) (w : World) (e : Ending) (w' : World) : Prop := e = .returned (ruleV p k (.func (.func fn) #[] #[])) ∧ Below w.heap.size w w'

set_option maxHeartbeats 4000000 in
set_option maxRecDepth 100000 in
theorem more_rate (w : World) : Calls Tryz.prog 55 #[.string ⟨#[114, 97, 116, 101]⟩] w (GrowRet true true w) := by
  have HP : Hid (∀ w1, Calls Tryz.prog 73 #[.bool true, .bool true] w1 (GrowRet true true w1)) := fun w1 => growth_any true true w1
  go_enter Tryz.func55, Tryz.ntmps55
  have HM : Hid (Bk.Is (w.alloc (.cells #[.int .i64 0, .int .i64 0, .nilFunc] 50)) w.heap.size #[.int .i64 0, .int .i64 0, .nilFunc] 50) := Bk.Is.made w _ _
  go_wp2_with (first | (go_at_call 73; ((with_reducible refine (HP.out _).mono ?_); rintro e w1 ⟨B, C, rfl, hB, hB2, hc, hc2, b1⟩; unfold ruleV; have HI := Lib.hid (HM.out.below b1 (by simp)); have HBB := Lib.hid hB; have HBC := Lib.hid hB2; have HC := Lib.hid hc; have HC2 := Lib.hid hc2; have B1 := Lib.hid b1; clear hB hB2 hc hc2 b1)) | (refine Bk.is_store 50 rfl ?_; refine wpList_store_row rfl 50 _ _ rfl w.heap.size #[.int .i64 2, .int .i64 0, .func (.func 97) #[] #[.pointer (some ⟨B, 0, none⟩), .pointer (some ⟨C, 0, none⟩)]] rfl rfl 50 #[.int .i64 0, .int .i64 0, .nilFunc] HI.out (by kernel_rfl) rfl (by kernel_rfl) ?_))
  refine Bk.ret_block (HI.out.setRow _) rfl rfl Tryz.underlying50 rfl (by kernel_rfl) rfl ?_
  have hB := HBB.out
  have hB2 := HBC.out
  simp at hB hB2
  exact ⟨B, C, rfl, by omega, by omega, by rw [setRow_old (by omega)]; exact HC.out, by rw [setRow_old (by omega)]; exact HC2.out, Bk.below_setRow (((Below.refl _ _).alloc (Nat.le_refl _) _).trans (B1.out.mono (by simp))) (Nat.le_refl _) _⟩

set_option maxHeartbeats 4000000 in
set_option maxRecDepth 100000 in
theorem find_rate (w : World) : Calls Tryz.prog 22 #[.string ⟨#[114, 97, 116, 101]⟩] w (GrowRet true true w) := by
  have HP : Hid (∀ w1, Calls Tryz.prog 55 #[.string ⟨#[114, 97, 116, 101]⟩] w1 (GrowRet true true w1)) := fun w1 => more_rate w1
  go_enter Tryz.func22, Tryz.ntmps22
  have HM : Hid (Bk.Is (w.alloc (.cells #[.int .i64 0, .int .i64 0, .nilFunc] 50)) w.heap.size #[.int .i64 0, .int .i64 0, .nilFunc] 50) := Bk.Is.made w _ _
  go_wp2_with (first | (go_at_call 55; ((with_reducible refine (HP.out _).mono ?_); rintro e w1 ⟨B, C, rfl, hB, hB2, hc, hc2, b1⟩; unfold ruleV; have HI := Lib.hid (HM.out.below b1 (by simp)); have HBB := Lib.hid hB; have HBC := Lib.hid hB2; have HC := Lib.hid hc; have HC2 := Lib.hid hc2; have B1 := Lib.hid b1; clear hB hB2 hc hc2 b1)) | (refine Bk.is_store 50 rfl ?_; refine wpList_store_row rfl 50 _ _ rfl w.heap.size #[.int .i64 2, .int .i64 0, .func (.func 97) #[] #[.pointer (some ⟨B, 0, none⟩), .pointer (some ⟨C, 0, none⟩)]] rfl rfl 50 #[.int .i64 0, .int .i64 0, .nilFunc] HI.out (by kernel_rfl) rfl (by kernel_rfl) ?_))
  refine Bk.ret_block (HI.out.setRow _) rfl rfl Tryz.underlying50 rfl (by kernel_rfl) rfl ?_
  have hB := HBB.out
  have hB2 := HBC.out
  simp at hB hB2
  exact ⟨B, C, rfl, by omega, by omega, by rw [setRow_old (by omega)]; exact HC.out, by rw [setRow_old (by omega)]; exact HC2.out, Bk.below_setRow (((Below.refl _ _).alloc (Nat.le_refl _) _).trans (B1.out.mono (by simp))) (Nat.le_refl _) _⟩

set_option maxHeartbeats 4000000 in
set_option maxRecDepth 100000 in
theorem more_increase (w : World) : Calls Tryz.prog 55 #[.string ⟨#[105, 110, 99, 114, 101, 97, 115, 101]⟩] w (GrowRet true false w) := by
  have HP : Hid (∀ w1, Calls Tryz.prog 73 #[.bool true, .bool false] w1 (GrowRet true false w1)) := fun w1 => growth_any true false w1
  go_enter Tryz.func55, Tryz.ntmps55
  have HM : Hid (Bk.Is (w.alloc (.cells #[.int .i64 0, .int .i64 0, .nilFunc] 50)) w.heap.size #[.int .i64 0, .int .i64 0, .nilFunc] 50) := Bk.Is.made w _ _
  go_wp2_with (first | (go_at_call 73; ((with_reducible refine (HP.out _).mono ?_); rintro e w1 ⟨B, C, rfl, hB, hB2, hc, hc2, b1⟩; unfold ruleV; have HI := Lib.hid (HM.out.below b1 (by simp)); have HBB := Lib.hid hB; have HBC := Lib.hid hB2; have HC := Lib.hid hc; have HC2 := Lib.hid hc2; have B1 := Lib.hid b1; clear hB hB2 hc hc2 b1)) | (refine Bk.is_store 50 rfl ?_; refine wpList_store_row rfl 50 _ _ rfl w.heap.size #[.int .i64 2, .int .i64 0, .func (.func 97) #[] #[.pointer (some ⟨B, 0, none⟩), .pointer (some ⟨C, 0, none⟩)]] rfl rfl 50 #[.int .i64 0, .int .i64 0, .nilFunc] HI.out (by kernel_rfl) rfl (by kernel_rfl) ?_))
  refine Bk.ret_block (HI.out.setRow _) rfl rfl Tryz.underlying50 rfl (by kernel_rfl) rfl ?_
  have hB := HBB.out
  have hB2 := HBC.out
  simp at hB hB2
  exact ⟨B, C, rfl, by omega, by omega, by rw [setRow_old (by omega)]; exact HC.out, by rw [setRow_old (by omega)]; exact HC2.out, Bk.below_setRow (((Below.refl _ _).alloc (Nat.le_refl _) _).trans (B1.out.mono (by simp))) (Nat.le_refl _) _⟩

set_option maxHeartbeats 4000000 in
set_option maxRecDepth 100000 in
theorem find_increase (w : World) : Calls Tryz.prog 22 #[.string ⟨#[105, 110, 99, 114, 101, 97, 115, 101]⟩] w (GrowRet true false w) := by
  have HP : Hid (∀ w1, Calls Tryz.prog 55 #[.string ⟨#[105, 110, 99, 114, 101, 97, 115, 101]⟩] w1 (GrowRet true false w1)) := fun w1 => more_increase w1
  go_enter Tryz.func22, Tryz.ntmps22
  have HM : Hid (Bk.Is (w.alloc (.cells #[.int .i64 0, .int .i64 0, .nilFunc] 50)) w.heap.size #[.int .i64 0, .int .i64 0, .nilFunc] 50) := Bk.Is.made w _ _
  go_wp2_with (first | (go_at_call 55; ((with_reducible refine (HP.out _).mono ?_); rintro e w1 ⟨B, C, rfl, hB, hB2, hc, hc2, b1⟩; unfold ruleV; have HI := Lib.hid (HM.out.below b1 (by simp)); have HBB := Lib.hid hB; have HBC := Lib.hid hB2; have HC := Lib.hid hc; have HC2 := Lib.hid hc2; have B1 := Lib.hid b1; clear hB hB2 hc hc2 b1)) | (refine Bk.is_store 50 rfl ?_; refine wpList_store_row rfl 50 _ _ rfl w.heap.size #[.int .i64 2, .int .i64 0, .func (.func 97) #[] #[.pointer (some ⟨B, 0, none⟩), .pointer (some ⟨C, 0, none⟩)]] rfl rfl 50 #[.int .i64 0, .int .i64 0, .nilFunc] HI.out (by kernel_rfl) rfl (by kernel_rfl) ?_))
  refine Bk.ret_block (HI.out.setRow _) rfl rfl Tryz.underlying50 rfl (by kernel_rfl) rfl ?_
  have hB := HBB.out
  have hB2 := HBC.out
  simp at hB hB2
  exact ⟨B, C, rfl, by omega, by omega, by rw [setRow_old (by omega)]; exact HC.out, by rw [setRow_old (by omega)]; exact HC2.out, Bk.below_setRow (((Below.refl _ _).alloc (Nat.le_refl _) _).trans (B1.out.mono (by simp))) (Nat.le_refl _) _⟩

set_option maxHeartbeats 4000000 in
set_option maxRecDepth 100000 in
theorem more_delta (w : World) : Calls Tryz.prog 55 #[.string ⟨#[100, 101, 108, 116, 97]⟩] w (GrowRet false false w) := by
  have HP : Hid (∀ w1, Calls Tryz.prog 73 #[.bool false, .bool false] w1 (GrowRet false false w1)) := fun w1 => growth_any false false w1
  go_enter Tryz.func55, Tryz.ntmps55
  have HM : Hid (Bk.Is (w.alloc (.cells #[.int .i64 0, .int .i64 0, .nilFunc] 50)) w.heap.size #[.int .i64 0, .int .i64 0, .nilFunc] 50) := Bk.Is.made w _ _
  go_wp2_with (first | (go_at_call 73; ((with_reducible refine (HP.out _).mono ?_); rintro e w1 ⟨B, C, rfl, hB, hB2, hc, hc2, b1⟩; unfold ruleV; have HI := Lib.hid (HM.out.below b1 (by simp)); have HBB := Lib.hid hB; have HBC := Lib.hid hB2; have HC := Lib.hid hc; have HC2 := Lib.hid hc2; have B1 := Lib.hid b1; clear hB hB2 hc hc2 b1)) | (refine Bk.is_store 50 rfl ?_; refine wpList_store_row rfl 50 _ _ rfl w.heap.size #[.int .i64 2, .int .i64 0, .func (.func 97) #[] #[.pointer (some ⟨B, 0, none⟩), .pointer (some ⟨C, 0, none⟩)]] rfl rfl 50 #[.int .i64 0, .int .i64 0, .nilFunc] HI.out (by kernel_rfl) rfl (by kernel_rfl) ?_))
  refine Bk.ret_block (HI.out.setRow _) rfl rfl Tryz.underlying50 rfl (by kernel_rfl) rfl ?_
  have hB := HBB.out
  have hB2 := HBC.out
  simp at hB hB2
  exact ⟨B, C, rfl, by omega, by omega, by rw [setRow_old (by omega)]; exact HC.out, by rw [setRow_old (by omega)]; exact HC2.out, Bk.below_setRow (((Below.refl _ _).alloc (Nat.le_refl _) _).trans (B1.out.mono (by simp))) (Nat.le_refl _) _⟩

set_option maxHeartbeats 4000000 in
set_option maxRecDepth 100000 in
theorem find_delta (w : World) : Calls Tryz.prog 22 #[.string ⟨#[100, 101, 108, 116, 97]⟩] w (GrowRet false false w) := by
  have HP : Hid (∀ w1, Calls Tryz.prog 55 #[.string ⟨#[100, 101, 108, 116, 97]⟩] w1 (GrowRet false false w1)) := fun w1 => more_delta w1
  go_enter Tryz.func22, Tryz.ntmps22
  have HM : Hid (Bk.Is (w.alloc (.cells #[.int .i64 0, .int .i64 0, .nilFunc] 50)) w.heap.size #[.int .i64 0, .int .i64 0, .nilFunc] 50) := Bk.Is.made w _ _
  go_wp2_with (first | (go_at_call 55; ((with_reducible refine (HP.out _).mono ?_); rintro e w1 ⟨B, C, rfl, hB, hB2, hc, hc2, b1⟩; unfold ruleV; have HI := Lib.hid (HM.out.below b1 (by simp)); have HBB := Lib.hid hB; have HBC := Lib.hid hB2; have HC := Lib.hid hc; have HC2 := Lib.hid hc2; have B1 := Lib.hid b1; clear hB hB2 hc hc2 b1)) | (refine Bk.is_store 50 rfl ?_; refine wpList_store_row rfl 50 _ _ rfl w.heap.size #[.int .i64 2, .int .i64 0, .func (.func 97) #[] #[.pointer (some ⟨B, 0, none⟩), .pointer (some ⟨C, 0, none⟩)]] rfl rfl 50 #[.int .i64 0, .int .i64 0, .nilFunc] HI.out (by kernel_rfl) rfl (by kernel_rfl) ?_))
  refine Bk.ret_block (HI.out.setRow _) rfl rfl Tryz.underlying50 rfl (by kernel_rfl) rfl ?_
  have hB := HBB.out
  have hB2 := HBC.out
  simp at hB hB2
  exact ⟨B, C, rfl, by omega, by omega, by rw [setRow_old (by omega)]; exact HC.out, by rw [setRow_old (by omega)]; exact HC2.out, Bk.below_setRow (((Below.refl _ _).alloc (Nat.le_refl _) _).trans (B1.out.mono (by simp))) (Nat.le_refl _) _⟩

set_option maxHeartbeats 4000000 in
set_option maxRecDepth 100000 in
theorem more_irate (w : World) : Calls Tryz.prog 55 #[.string ⟨#[105, 114, 97, 116, 101]⟩] w (LastRet true w) := by
  have HP : Hid (∀ w1, Calls Tryz.prog 74 #[.bool true] w1 (LastRet true w1)) := fun w1 => last_any true w1
  go_enter Tryz.func55, Tryz.ntmps55
  have HM : Hid (Bk.Is (w.alloc (.cells #[.int .i64 0, .int .i64 0, .nilFunc] 50)) w.heap.size #[.int .i64 0, .int .i64 0, .nilFunc] 50) := Bk.Is.made w _ _
  go_wp2_with (first | (go_at_call 74; ((with_reducible refine (HP.out _).mono ?_); rintro e w1 ⟨B, rfl, hB, hc, b1⟩; unfold ruleV; have HI := Lib.hid (HM.out.below b1 (by simp)); have HBB := Lib.hid hB; have HC := Lib.hid hc; have B1 := Lib.hid b1; clear hB hc b1)) | (refine Bk.is_store 50 rfl ?_; refine wpList_store_row rfl 50 _ _ rfl w.heap.size #[.int .i64 2, .int .i64 0, .func (.func 98) #[] #[.pointer (some ⟨B, 0, none⟩)]] rfl rfl 50 #[.int .i64 0, .int .i64 0, .nilFunc] HI.out (by kernel_rfl) rfl (by kernel_rfl) ?_))
  refine Bk.ret_block (HI.out.setRow _) rfl rfl Tryz.underlying50 rfl (by kernel_rfl) rfl ?_
  have hB := HBB.out
  simp at hB
  exact ⟨B, rfl, by omega, by rw [setRow_old (by omega)]; exact HC.out, Bk.below_setRow (((Below.refl _ _).alloc (Nat.le_refl _) _).trans (B1.out.mono (by simp))) (Nat.le_refl _) _⟩

set_option maxHeartbeats 4000000 in
set_option maxRecDepth 100000 in
theorem find_irate (w : World) : Calls Tryz.prog 22 #[.string ⟨#[105, 114, 97, 116, 101]⟩] w (LastRet true w) := by
  have HP : Hid (∀ w1, Calls Tryz.prog 55 #[.string ⟨#[105, 114, 97, 116, 101]⟩] w1 (LastRet true w1)) := fun w1 => more_irate w1
  go_enter Tryz.func22, Tryz.ntmps22
  have HM : Hid (Bk.Is (w.alloc (.cells #[.int .i64 0, .int .i64 0, .nilFunc] 50)) w.heap.size #[.int .i64 0, .int .i64 0, .nilFunc] 50) := Bk.Is.made w _ _
  go_wp2_with (first | (go_at_call 55; ((with_reducible refine (HP.out _).mono ?_); rintro e w1 ⟨B, rfl, hB, hc, b1⟩; unfold ruleV; have HI := Lib.hid (HM.out.below b1 (by simp)); have HBB := Lib.hid hB; have HC := Lib.hid hc; have B1 := Lib.hid b1; clear hB hc b1)) | (refine Bk.is_store 50 rfl ?_; refine wpList_store_row rfl 50 _ _ rfl w.heap.size #[.int .i64 2, .int .i64 0, .func (.func 98) #[] #[.pointer (some ⟨B, 0, none⟩)]] rfl rfl 50 #[.int .i64 0, .int .i64 0, .nilFunc] HI.out (by kernel_rfl) rfl (by kernel_rfl) ?_))
  refine Bk.ret_block (HI.out.setRow _) rfl rfl Tryz.underlying50 rfl (by kernel_rfl) rfl ?_
  have hB := HBB.out
  simp at hB
  exact ⟨B, rfl, by omega, by rw [setRow_old (by omega)]; exact HC.out, Bk.below_setRow (((Below.refl _ _).alloc (Nat.le_refl _) _).trans (B1.out.mono (by simp))) (Nat.le_refl _) _⟩

set_option maxHeartbeats 4000000 in
set_option maxRecDepth 100000 in
theorem more_idelta (w : World) : Calls Tryz.prog 55 #[.string ⟨#[105, 100, 101, 108, 116, 97]⟩] w (LastRet false w) := by
  have HP : Hid (∀ w1, Calls Tryz.prog 74 #[.bool false] w1 (LastRet false w1)) := fun w1 => last_any false w1
  go_enter Tryz.func55, Tryz.ntmps55
  have HM : Hid (Bk.Is (w.alloc (.cells #[.int .i64 0, .int .i64 0, .nilFunc] 50)) w.heap.size #[.int .i64 0, .int .i64 0, .nilFunc] 50) := Bk.Is.made w _ _
  go_wp2_with (first | (go_at_call 74; ((with_reducible refine (HP.out _).mono ?_); rintro e w1 ⟨B, rfl, hB, hc, b1⟩; unfold ruleV; have HI := Lib.hid (HM.out.below b1 (by simp)); have HBB := Lib.hid hB; have HC := Lib.hid hc; have B1 := Lib.hid b1; clear hB hc b1)) | (refine Bk.is_store 50 rfl ?_; refine wpList_store_row rfl 50 _ _ rfl w.heap.size #[.int .i64 2, .int .i64 0, .func (.func 98) #[] #[.pointer (some ⟨B, 0, none⟩)]] rfl rfl 50 #[.int .i64 0, .int .i64 0, .nilFunc] HI.out (by kernel_rfl) rfl (by kernel_rfl) ?_))
  refine Bk.ret_block (HI.out.setRow _) rfl rfl Tryz.underlying50 rfl (by kernel_rfl) rfl ?_
  have hB := HBB.out
  simp at hB
  exact ⟨B, rfl, by omega, by rw [setRow_old (by omega)]; exact HC.out, Bk.below_setRow (((Below.refl _ _).alloc (Nat.le_refl _) _).trans (B1.out.mono (by simp))) (Nat.le_refl _) _⟩

set_option maxHeartbeats 4000000 in
set_option maxRecDepth 100000 in
theorem find_idelta (w : World) : Calls Tryz.prog 22 #[.string ⟨#[105, 100, 101, 108, 116, 97]⟩] w (LastRet false w) := by
  have HP : Hid (∀ w1, Calls Tryz.prog 55 #[.string ⟨#[105, 100, 101, 108, 116, 97]⟩] w1 (LastRet false w1)) := fun w1 => more_idelta w1
  go_enter Tryz.func22, Tryz.ntmps22
  have HM : Hid (Bk.Is (w.alloc (.cells #[.int .i64 0, .int .i64 0, .nilFunc] 50)) w.heap.size #[.int .i64 0, .int .i64 0, .nilFunc] 50) := Bk.Is.made w _ _
  go_wp2_with (first | (go_at_call 55; ((with_reducible refine (HP.out _).mono ?_); rintro e w1 ⟨B, rfl, hB, hc, b1⟩; unfold ruleV; have HI := Lib.hid (HM.out.below b1 (by simp)); have HBB := Lib.hid hB; have HC := Lib.hid hc; have B1 := Lib.hid b1; clear hB hc b1)) | (refine Bk.is_store 50 rfl ?_; refine wpList_store_row rfl 50 _ _ rfl w.heap.size #[.int .i64 2, .int .i64 0, .func (.func 98) #[] #[.pointer (some ⟨B, 0, none⟩)]] rfl rfl 50 #[.int .i64 0, .int .i64 0, .nilFunc] HI.out (by kernel_rfl) rfl (by kernel_rfl) ?_))
  refine Bk.ret_block (HI.out.setRow _) rfl rfl Tryz.underlying50 rfl (by kernel_rfl) rfl ?_
  have hB := HBB.out
  simp at hB
  exact ⟨B, rfl, by omega, by rw [setRow_old (by omega)]; exact HC.out, Bk.below_setRow (((Below.refl _ _).alloc (Nat.le_refl _) _).trans (B1.out.mono (by simp))) (Nat.le_refl _) _⟩

set_option maxHeartbeats 4000000 in
set_option maxRecDepth 100000 in
theorem more_deriv (w : World) : Calls Tryz.prog 55 #[.string ⟨#[100, 101, 114, 105, 118]⟩] w (RuleRet 2 0 75 w) := by
  have hmf : ∀ (fn : Fn) (first cap : Array Value) (w : World), (Instr.makeFunc fn first cap).run Tryz.prog w = .ok (.func fn first cap) w := fun _ _ _ _ => rfl
  go_enter Tryz.func55, Tryz.ntmps55
  have HM : Hid (Bk.Is (w.alloc (.cells #[.int .i64 0, .int .i64 0, .nilFunc] 50)) w.heap.size #[.int .i64 0, .int .i64 0, .nilFunc] 50) := Bk.Is.made w _ _
  go_wp2_with (refine Bk.is_store 50 rfl ?_; refine wpList_store_row rfl 50 _ _ rfl w.heap.size #[.int .i64 2, .int .i64 0, .func (.func 75) #[] #[]] rfl rfl 50 #[.int .i64 0, .int .i64 0, .nilFunc] HM.out (by kernel_rfl) rfl (by kernel_rfl) ?_)
  refine Bk.ret_block (HM.out.setRow _) rfl rfl Tryz.underlying50 rfl (by kernel_rfl) rfl ?_
  exact ⟨rfl, Bk.below_setRow ((Below.refl _ _).alloc (Nat.le_refl _) _) (Nat.le_refl _) _⟩

set_option maxHeartbeats 4000000 in
set_option maxRecDepth 100000 in
theorem find_deriv (w : World) : Calls Tryz.prog 22 #[.string ⟨#[100, 101, 114, 105, 118]⟩] w (RuleRet 2 0 75 w) := by
  have HP : Hid (∀ w1, Calls Tryz.prog 55 #[.string ⟨#[100, 101, 114, 105, 118]⟩] w1 (RuleRet 2 0 75 w1)) := fun w1 => more_deriv w1
  go_enter Tryz.func22, Tryz.ntmps22
  have HM : Hid (Bk.Is (w.alloc (.cells #[.int .i64 0, .int .i64 0, .nilFunc] 50)) w.heap.size #[.int .i64 0, .int .i64 0, .nilFunc] 50) := Bk.Is.made w _ _
  go_wp2_with (first | (go_at_call 55; ((with_reducible refine (HP.out _).mono ?_); rintro e w1 ⟨rfl, b1⟩; unfold ruleV; have HI := Lib.hid (HM.out.below b1 (by simp)); have B1 := Lib.hid b1; clear b1)) | (refine Bk.is_store 50 rfl ?_; refine wpList_store_row rfl 50 _ _ rfl w.heap.size #[.int .i64 2, .int .i64 0, .func (.func 75) #[] #[]] rfl rfl 50 #[.int .i64 0, .int .i64 0, .nilFunc] HI.out (by kernel_rfl) rfl (by kernel_rfl) ?_))
  refine Bk.ret_block (HI.out.setRow _) rfl rfl Tryz.underlying50 rfl (by kernel_rfl) rfl ?_
  exact ⟨rfl, Bk.below_setRow (((Below.refl _ _).alloc (Nat.le_refl _) _).trans (B1.out.mono (by simp))) (Nat.le_refl _) _⟩

set_option maxHeartbeats 4000000 in
set_option maxRecDepth 100000 in
theorem more_quantile_over_time (w : World) : Calls Tryz.prog 55 #[.string ⟨#[113, 117, 97, 110, 116, 105, 108, 101, 95, 111, 118, 101, 114, 95, 116, 105, 109, 101]⟩] w (RuleRet 1 1 77 w) := by
  have hmf : ∀ (fn : Fn) (first cap : Array Value) (w : World), (Instr.makeFunc fn first cap).run Tryz.prog w = .ok (.func fn first cap) w := fun _ _ _ _ => rfl
  go_enter Tryz.func55, Tryz.ntmps55
  have HM : Hid (Bk.Is (w.alloc (.cells #[.int .i64 0, .int .i64 0, .nilFunc] 50)) w.heap.size #[.int .i64 0, .int .i64 0, .nilFunc] 50) := Bk.Is.made w _ _
  go_wp2_with (refine Bk.is_store 50 rfl ?_; refine wpList_store_row rfl 50 _ _ rfl w.heap.size #[.int .i64 1, .int .i64 1, .func (.func 77) #[] #[]] rfl rfl 50 #[.int .i64 0, .int .i64 0, .nilFunc] HM.out (by kernel_rfl) rfl (by kernel_rfl) ?_)
  refine Bk.ret_block (HM.out.setRow _) rfl rfl Tryz.underlying50 rfl (by kernel_rfl) rfl ?_
  exact ⟨rfl, Bk.below_setRow ((Below.refl _ _).alloc (Nat.le_refl _) _) (Nat.le_refl _) _⟩

set_option maxHeartbeats 4000000 in
set_option maxRecDepth 100000 in
theorem find_quantile_over_time (w : World) : Calls Tryz.prog 22 #[.string ⟨#[113, 117, 97, 110, 116, 105, 108, 101, 95, 111, 118, 101, 114, 95, 116, 105, 109, 101]⟩] w (RuleRet 1 1 77 w) := by
  have HP : Hid (∀ w1, Calls Tryz.prog 55 #[.string ⟨#[113, 117, 97, 110, 116, 105, 108, 101, 95, 111, 118, 101, 114, 95, 116, 105, 109, 101]⟩] w1 (RuleRet 1 1 77 w1)) := fun w1 => more_quantile_over_time w1
  go_enter Tryz.func22, Tryz.ntmps22
  have HM : Hid (Bk.Is (w.alloc (.cells #[.int .i64 0, .int .i64 0, .nilFunc] 50)) w.heap.size #[.int .i64 0, .int .i64 0, .nilFunc] 50) := Bk.Is.made w _ _
  go_wp2_with (first | (go_at_call 55; ((with_reducible refine (HP.out _).mono ?_); rintro e w1 ⟨rfl, b1⟩; unfold ruleV; have HI := Lib.hid (HM.out.below b1 (by simp)); have B1 := Lib.hid b1; clear b1)) | (refine Bk.is_store 50 rfl ?_; refine wpList_store_row rfl 50 _ _ rfl w.heap.size #[.int .i64 1, .int .i64 1, .func (.func 77) #[] #[]] rfl rfl 50 #[.int .i64 0, .int .i64 0, .nilFunc] HI.out (by kernel_rfl) rfl (by kernel_rfl) ?_))
  refine Bk.ret_block (HI.out.setRow _) rfl rfl Tryz.underlying50 rfl (by kernel_rfl) rfl ?_
  exact ⟨rfl, Bk.below_setRow (((Below.refl _ _).alloc (Nat.le_refl _) _).trans (B1.out.mono (by simp))) (Nat.le_refl _) _⟩

set_option maxHeartbeats 4000000 in
set_option maxRecDepth 100000 in
theorem more_predict_linear (w : World) : Calls Tryz.prog 55 #[.string ⟨#[112, 114, 101, 100, 105, 99, 116, 95, 108, 105, 110, 101, 97, 114]⟩] w (RuleRet 2 1 78 w) := by
  have hmf : ∀ (fn : Fn) (first cap : Array Value) (w : World), (Instr.makeFunc fn first cap).run Tryz.prog w = .ok (.func fn first cap) w := fun _ _ _ _ => rfl
  go_enter Tryz.func55, Tryz.ntmps55
  have HM : Hid (Bk.Is (w.alloc (.cells #[.int .i64 0, .int .i64 0, .nilFunc] 50)) w.heap.size #[.int .i64 0, .int .i64 0, .nilFunc] 50) := Bk.Is.made w _ _
  go_wp2_with (refine Bk.is_store 50 rfl ?_; refine wpList_store_row rfl 50 _ _ rfl w.heap.size #[.int .i64 2, .int .i64 1, .func (.func 78) #[] #[]] rfl rfl 50 #[.int .i64 0, .int .i64 0, .nilFunc] HM.out (by kernel_rfl) rfl (by kernel_rfl) ?_)
  refine Bk.ret_block (HM.out.setRow _) rfl rfl Tryz.underlying50 rfl (by kernel_rfl) rfl ?_
  exact ⟨rfl, Bk.below_setRow ((Below.refl _ _).alloc (Nat.le_refl _) _) (Nat.le_refl _) _⟩

set_option maxHeartbeats 4000000 in
set_option maxRecDepth 100000 in
theorem find_predict_linear (w : World) : Calls Tryz.prog 22 #[.string ⟨#[112, 114, 101, 100, 105, 99, 116, 95, 108, 105, 110, 101, 97, 114]⟩] w (RuleRet 2 1 78 w) := by
  have HP : Hid (∀ w1, Calls Tryz.prog 55 #[.string ⟨#[112, 114, 101, 100, 105, 99, 116, 95, 108, 105, 110, 101, 97, 114]⟩] w1 (RuleRet 2 1 78 w1)) := fun w1 => more_predict_linear w1
  go_enter Tryz.func22, Tryz.ntmps22
  have HM : Hid (Bk.Is (w.alloc (.cells #[.int .i64 0, .int .i64 0, .nilFunc] 50)) w.heap.size #[.int .i64 0, .int .i64 0, .nilFunc] 50) := Bk.Is.made w _ _
  go_wp2_with (first | (go_at_call 55; ((with_reducible refine (HP.out _).mono ?_); rintro e w1 ⟨rfl, b1⟩; unfold ruleV; have HI := Lib.hid (HM.out.below b1 (by simp)); have B1 := Lib.hid b1; clear b1)) | (refine Bk.is_store 50 rfl ?_; refine wpList_store_row rfl 50 _ _ rfl w.heap.size #[.int .i64 2, .int .i64 1, .func (.func 78) #[] #[]] rfl rfl 50 #[.int .i64 0, .int .i64 0, .nilFunc] HI.out (by kernel_rfl) rfl (by kernel_rfl) ?_))
  refine Bk.ret_block (HI.out.setRow _) rfl rfl Tryz.underlying50 rfl (by kernel_rfl) rfl ?_
  exact ⟨rfl, Bk.below_setRow (((Below.refl _ _).alloc (Nat.le_refl _) _).trans (B1.out.mono (by simp))) (Nat.le_refl _) _⟩

set_option maxHeartbeats 4000000 in
set_option maxRecDepth 100000 in
theorem more_double_exponential_smoothing (w : World) : Calls Tryz.prog 55 #[.string ⟨#[100, 111, 117, 98, 108, 101, 95, 101, 120, 112, 111, 110, 101, 110, 116, 105, 97, 108, 95, 115, 109, 111, 111, 116, 104, 105, 110, 103]⟩] w (RuleRet 2 2 79 w) := by
  have hmf : ∀ (fn : Fn) (first cap : Array Value) (w : World), (Instr.makeFunc fn first cap).run Tryz.prog w = .ok (.func fn first cap) w := fun _ _ _ _ => rfl
  go_enter Tryz.func55, Tryz.ntmps55
  have HM : Hid (Bk.Is (w.alloc (.cells #[.int .i64 0, .int .i64 0, .nilFunc] 50)) w.heap.size #[.int .i64 0, .int .i64 0, .nilFunc] 50) := Bk.Is.made w _ _
  go_wp2_with (refine Bk.is_store 50 rfl ?_; refine wpList_store_row rfl 50 _ _ rfl w.heap.size #[.int .i64 2, .int .i64 2, .func (.func 79) #[] #[]] rfl rfl 50 #[.int .i64 0, .int .i64 0, .nilFunc] HM.out (by kernel_rfl) rfl (by kernel_rfl) ?_)
  refine Bk.ret_block (HM.out.setRow _) rfl rfl Tryz.underlying50 rfl (by kernel_rfl) rfl ?_
  exact ⟨rfl, Bk.below_setRow ((Below.refl _ _).alloc (Nat.le_refl _) _) (Nat.le_refl _) _⟩

set_option maxHeartbeats 4000000 in
set_option maxRecDepth 100000 in
theorem find_double_exponential_smoothing (w : World) : Calls Tryz.prog 22 #[.string ⟨#[100, 111, 117, 98, 108, 101, 95, 101, 120, 112, 111, 110, 101, 110, 116, 105, 97, 108, 95, 115, 109, 111, 111, 116, 104, 105, 110, 103]⟩] w (RuleRet 2 2 79 w) := by
  have HP : Hid (∀ w1, Calls Tryz.prog 55 #[.string ⟨#[100, 111, 117, 98, 108, 101, 95, 101, 120, 112, 111, 110, 101, 110, 116, 105, 97, 108, 95, 115, 109, 111, 111, 116, 104, 105, 110, 103]⟩] w1 (RuleRet 2 2 79 w1)) := fun w1 => more_double_exponential_smoothing w1
  go_enter Tryz.func22, Tryz.ntmps22
  have HM : Hid (Bk.Is (w.alloc (.cells #[.int .i64 0, .int .i64 0, .nilFunc] 50)) w.heap.size #[.int .i64 0, .int .i64 0, .nilFunc] 50) := Bk.Is.made w _ _
  go_wp2_with (first | (go_at_call 55; ((with_reducible refine (HP.out _).mono ?_); rintro e w1 ⟨rfl, b1⟩; unfold ruleV; have HI := Lib.hid (HM.out.below b1 (by simp)); have B1 := Lib.hid b1; clear b1)) | (refine Bk.is_store 50 rfl ?_; refine wpList_store_row rfl 50 _ _ rfl w.heap.size #[.int .i64 2, .int .i64 2, .func (.func 79) #[] #[]] rfl rfl 50 #[.int .i64 0, .int .i64 0, .nilFunc] HI.out (by kernel_rfl) rfl (by kernel_rfl) ?_))
  refine Bk.ret_block (HI.out.setRow _) rfl rfl Tryz.underlying50 rfl (by kernel_rfl) rfl ?_
  exact ⟨rfl, Bk.below_setRow (((Below.refl _ _).alloc (Nat.le_refl _) _).trans (B1.out.mono (by simp))) (Nat.le_refl _) _⟩

set_option maxHeartbeats 4000000 in
set_option maxRecDepth 100000 in
theorem more_beat_over_time (w : World) : Calls Tryz.prog 55 #[.string ⟨#[98, 101, 97, 116, 95, 111, 118, 101, 114, 95, 116, 105, 109, 101]⟩] w (RuleRet 1 1 81 w) := by
  have hmf : ∀ (fn : Fn) (first cap : Array Value) (w : World), (Instr.makeFunc fn first cap).run Tryz.prog w = .ok (.func fn first cap) w := fun _ _ _ _ => rfl
  go_enter Tryz.func55, Tryz.ntmps55
  have HM : Hid (Bk.Is (w.alloc (.cells #[.int .i64 0, .int .i64 0, .nilFunc] 50)) w.heap.size #[.int .i64 0, .int .i64 0, .nilFunc] 50) := Bk.Is.made w _ _
  go_wp2_with (refine Bk.is_store 50 rfl ?_; refine wpList_store_row rfl 50 _ _ rfl w.heap.size #[.int .i64 1, .int .i64 1, .func (.func 81) #[] #[]] rfl rfl 50 #[.int .i64 0, .int .i64 0, .nilFunc] HM.out (by kernel_rfl) rfl (by kernel_rfl) ?_)
  refine Bk.ret_block (HM.out.setRow _) rfl rfl Tryz.underlying50 rfl (by kernel_rfl) rfl ?_
  exact ⟨rfl, Bk.below_setRow ((Below.refl _ _).alloc (Nat.le_refl _) _) (Nat.le_refl _) _⟩

set_option maxHeartbeats 4000000 in
set_option maxRecDepth 100000 in
theorem find_beat_over_time (w : World) : Calls Tryz.prog 22 #[.string ⟨#[98, 101, 97, 116, 95, 111, 118, 101, 114, 95, 116, 105, 109, 101]⟩] w (RuleRet 1 1 81 w) := by
  have HP : Hid (∀ w1, Calls Tryz.prog 55 #[.string ⟨#[98, 101, 97, 116, 95, 111, 118, 101, 114, 95, 116, 105, 109, 101]⟩] w1 (RuleRet 1 1 81 w1)) := fun w1 => more_beat_over_time w1
  go_enter Tryz.func22, Tryz.ntmps22
  have HM : Hid (Bk.Is (w.alloc (.cells #[.int .i64 0, .int .i64 0, .nilFunc] 50)) w.heap.size #[.int .i64 0, .int .i64 0, .nilFunc] 50) := Bk.Is.made w _ _
  go_wp2_with (first | (go_at_call 55; ((with_reducible refine (HP.out _).mono ?_); rintro e w1 ⟨rfl, b1⟩; unfold ruleV; have HI := Lib.hid (HM.out.below b1 (by simp)); have B1 := Lib.hid b1; clear b1)) | (refine Bk.is_store 50 rfl ?_; refine wpList_store_row rfl 50 _ _ rfl w.heap.size #[.int .i64 1, .int .i64 1, .func (.func 81) #[] #[]] rfl rfl 50 #[.int .i64 0, .int .i64 0, .nilFunc] HI.out (by kernel_rfl) rfl (by kernel_rfl) ?_))
  refine Bk.ret_block (HI.out.setRow _) rfl rfl Tryz.underlying50 rfl (by kernel_rfl) rfl ?_
  exact ⟨rfl, Bk.below_setRow (((Below.refl _ _).alloc (Nat.le_refl _) _).trans (B1.out.mono (by simp))) (Nat.le_refl _) _⟩
end Go.Proofs.YtoeldcgclaiokaaGreat
