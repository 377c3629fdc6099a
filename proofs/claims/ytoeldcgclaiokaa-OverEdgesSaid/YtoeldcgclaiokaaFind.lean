/- over.find at each name. -/
import Derived.Test.YtoeldcgclaiokaaFindA
namespace Go.Proofs.Ytoeldcgclaiokaa
open Go.Fl Go.Rel Go.RowKit

theorem setRow_old {w : World} {g : Nat} {vs : Array Value} {B j : Nat} (h : B ≠ g) : (w.setRow g vs).cell? ⟨B, j, none⟩ = w.cell? ⟨B, j, none⟩ := by
  unfold World.setRow World.cell?
  simp [Array.getElem?_modify, Ne.symm h]

set_option maxHeartbeats 4000000 in
set_option maxRecDepth 100000 in
theorem find_count_over_time (w : World) : Calls Try.prog 23 #[.string ⟨#[99, 111, 117, 110, 116, 95, 111, 118, 101, 114, 95, 116, 105, 109, 101]⟩] w (PlainRet (.func (.func 30) #[] #[]) w) := by
  have HP : Hid (∀ w1, Calls Try.prog 29 #[.func (.func 30) #[] #[]] w1 (PlainRet (.func (.func 30) #[] #[]) w1)) := fun w1 => plain_any _ w1
  go_enter Try.func23, Try.ntmps23
  have HM : Hid (Bk.Is (w.alloc (.cells #[.int .i64 0, .int .i64 0, .nilFunc] 49)) w.heap.size #[.int .i64 0, .int .i64 0, .nilFunc] 49) := Bk.Is.made w _ _
  go_wp2_with (first | (go_at_call 29; ((with_reducible refine (HP.out _).mono ?_); rintro e w1 ⟨B, rfl, hB, hc, b1⟩; unfold ruleV; have HI := Lib.hid (HM.out.below b1 (by simp)); have HBB := Lib.hid hB; have HC := Lib.hid hc; have B1 := Lib.hid b1; clear hB hc b1)) | (refine Bk.is_store 49 rfl ?_; refine wpList_store_row rfl 49 _ _ rfl w.heap.size #[.int .i64 1, .int .i64 0, .func (.func 45) #[] #[.pointer (some ⟨B, 0, none⟩)]] rfl rfl 49 #[.int .i64 0, .int .i64 0, .nilFunc] HI.out (by kernel_rfl) rfl (by kernel_rfl) ?_))
  refine Bk.ret_block (HI.out.setRow _) rfl rfl Try.underlying49 rfl (by kernel_rfl) rfl ?_
  have hB := HBB.out
  simp at hB
  exact ⟨B, rfl, by omega, by rw [setRow_old (by omega)]; exact HC.out, Bk.below_setRow (((Below.refl _ _).alloc (Nat.le_refl _) _).trans (B1.out.mono (by simp))) (Nat.le_refl _) _⟩

set_option maxHeartbeats 4000000 in
set_option maxRecDepth 100000 in
theorem find_present_over_time (w : World) : Calls Try.prog 23 #[.string ⟨#[112, 114, 101, 115, 101, 110, 116, 95, 111, 118, 101, 114, 95, 116, 105, 109, 101]⟩] w (PlainRet (.func (.func 31) #[] #[]) w) := by
  have HP : Hid (∀ w1, Calls Try.prog 29 #[.func (.func 31) #[] #[]] w1 (PlainRet (.func (.func 31) #[] #[]) w1)) := fun w1 => plain_any _ w1
  go_enter Try.func23, Try.ntmps23
  have HM : Hid (Bk.Is (w.alloc (.cells #[.int .i64 0, .int .i64 0, .nilFunc] 49)) w.heap.size #[.int .i64 0, .int .i64 0, .nilFunc] 49) := Bk.Is.made w _ _
  go_wp2_with (first | (go_at_call 29; ((with_reducible refine (HP.out _).mono ?_); rintro e w1 ⟨B, rfl, hB, hc, b1⟩; unfold ruleV; have HI := Lib.hid (HM.out.below b1 (by simp)); have HBB := Lib.hid hB; have HC := Lib.hid hc; have B1 := Lib.hid b1; clear hB hc b1)) | (refine Bk.is_store 49 rfl ?_; refine wpList_store_row rfl 49 _ _ rfl w.heap.size #[.int .i64 1, .int .i64 0, .func (.func 45) #[] #[.pointer (some ⟨B, 0, none⟩)]] rfl rfl 49 #[.int .i64 0, .int .i64 0, .nilFunc] HI.out (by kernel_rfl) rfl (by kernel_rfl) ?_))
  refine Bk.ret_block (HI.out.setRow _) rfl rfl Try.underlying49 rfl (by kernel_rfl) rfl ?_
  have hB := HBB.out
  simp at hB
  exact ⟨B, rfl, by omega, by rw [setRow_old (by omega)]; exact HC.out, Bk.below_setRow (((Below.refl _ _).alloc (Nat.le_refl _) _).trans (B1.out.mono (by simp))) (Nat.le_refl _) _⟩

set_option maxHeartbeats 4000000 in
set_option maxRecDepth 100000 in
theorem find_first_over_time (w : World) : Calls Try.prog 23 #[.string ⟨#[102, 105, 114, 115, 116, 95, 111, 118, 101, 114, 95, 116, 105, 109, 101]⟩] w (PlainRet (.func (.func 32) #[] #[]) w) := by
  have HP : Hid (∀ w1, Calls Try.prog 29 #[.func (.func 32) #[] #[]] w1 (PlainRet (.func (.func 32) #[] #[]) w1)) := fun w1 => plain_any _ w1
  go_enter Try.func23, Try.ntmps23
  have HM : Hid (Bk.Is (w.alloc (.cells #[.int .i64 0, .int .i64 0, .nilFunc] 49)) w.heap.size #[.int .i64 0, .int .i64 0, .nilFunc] 49) := Bk.Is.made w _ _
  go_wp2_with (first | (go_at_call 29; ((with_reducible refine (HP.out _).mono ?_); rintro e w1 ⟨B, rfl, hB, hc, b1⟩; unfold ruleV; have HI := Lib.hid (HM.out.below b1 (by simp)); have HBB := Lib.hid hB; have HC := Lib.hid hc; have B1 := Lib.hid b1; clear hB hc b1)) | (refine Bk.is_store 49 rfl ?_; refine wpList_store_row rfl 49 _ _ rfl w.heap.size #[.int .i64 1, .int .i64 0, .func (.func 45) #[] #[.pointer (some ⟨B, 0, none⟩)]] rfl rfl 49 #[.int .i64 0, .int .i64 0, .nilFunc] HI.out (by kernel_rfl) rfl (by kernel_rfl) ?_))
  refine Bk.ret_block (HI.out.setRow _) rfl rfl Try.underlying49 rfl (by kernel_rfl) rfl ?_
  have hB := HBB.out
  simp at hB
  exact ⟨B, rfl, by omega, by rw [setRow_old (by omega)]; exact HC.out, Bk.below_setRow (((Below.refl _ _).alloc (Nat.le_refl _) _).trans (B1.out.mono (by simp))) (Nat.le_refl _) _⟩

set_option maxHeartbeats 4000000 in
set_option maxRecDepth 100000 in
theorem find_last_over_time (w : World) : Calls Try.prog 23 #[.string ⟨#[108, 97, 115, 116, 95, 111, 118, 101, 114, 95, 116, 105, 109, 101]⟩] w (PlainRet (.func (.func 33) #[] #[]) w) := by
  have HP : Hid (∀ w1, Calls Try.prog 29 #[.func (.func 33) #[] #[]] w1 (PlainRet (.func (.func 33) #[] #[]) w1)) := fun w1 => plain_any _ w1
  go_enter Try.func23, Try.ntmps23
  have HM : Hid (Bk.Is (w.alloc (.cells #[.int .i64 0, .int .i64 0, .nilFunc] 49)) w.heap.size #[.int .i64 0, .int .i64 0, .nilFunc] 49) := Bk.Is.made w _ _
  go_wp2_with (first | (go_at_call 29; ((with_reducible refine (HP.out _).mono ?_); rintro e w1 ⟨B, rfl, hB, hc, b1⟩; unfold ruleV; have HI := Lib.hid (HM.out.below b1 (by simp)); have HBB := Lib.hid hB; have HC := Lib.hid hc; have B1 := Lib.hid b1; clear hB hc b1)) | (refine Bk.is_store 49 rfl ?_; refine wpList_store_row rfl 49 _ _ rfl w.heap.size #[.int .i64 1, .int .i64 0, .func (.func 45) #[] #[.pointer (some ⟨B, 0, none⟩)]] rfl rfl 49 #[.int .i64 0, .int .i64 0, .nilFunc] HI.out (by kernel_rfl) rfl (by kernel_rfl) ?_))
  refine Bk.ret_block (HI.out.setRow _) rfl rfl Try.underlying49 rfl (by kernel_rfl) rfl ?_
  have hB := HBB.out
  simp at hB
  exact ⟨B, rfl, by omega, by rw [setRow_old (by omega)]; exact HC.out, Bk.below_setRow (((Below.refl _ _).alloc (Nat.le_refl _) _).trans (B1.out.mono (by simp))) (Nat.le_refl _) _⟩

set_option maxHeartbeats 4000000 in
set_option maxRecDepth 100000 in
theorem find_sum_over_time (w : World) : Calls Try.prog 23 #[.string ⟨#[115, 117, 109, 95, 111, 118, 101, 114, 95, 116, 105, 109, 101]⟩] w (PlainRet (.func (.func 34) #[] #[]) w) := by
  have HP : Hid (∀ w1, Calls Try.prog 29 #[.func (.func 34) #[] #[]] w1 (PlainRet (.func (.func 34) #[] #[]) w1)) := fun w1 => plain_any _ w1
  go_enter Try.func23, Try.ntmps23
  have HM : Hid (Bk.Is (w.alloc (.cells #[.int .i64 0, .int .i64 0, .nilFunc] 49)) w.heap.size #[.int .i64 0, .int .i64 0, .nilFunc] 49) := Bk.Is.made w _ _
  go_wp2_with (first | (go_at_call 29; ((with_reducible refine (HP.out _).mono ?_); rintro e w1 ⟨B, rfl, hB, hc, b1⟩; unfold ruleV; have HI := Lib.hid (HM.out.below b1 (by simp)); have HBB := Lib.hid hB; have HC := Lib.hid hc; have B1 := Lib.hid b1; clear hB hc b1)) | (refine Bk.is_store 49 rfl ?_; refine wpList_store_row rfl 49 _ _ rfl w.heap.size #[.int .i64 1, .int .i64 0, .func (.func 45) #[] #[.pointer (some ⟨B, 0, none⟩)]] rfl rfl 49 #[.int .i64 0, .int .i64 0, .nilFunc] HI.out (by kernel_rfl) rfl (by kernel_rfl) ?_))
  refine Bk.ret_block (HI.out.setRow _) rfl rfl Try.underlying49 rfl (by kernel_rfl) rfl ?_
  have hB := HBB.out
  simp at hB
  exact ⟨B, rfl, by omega, by rw [setRow_old (by omega)]; exact HC.out, Bk.below_setRow (((Below.refl _ _).alloc (Nat.le_refl _) _).trans (B1.out.mono (by simp))) (Nat.le_refl _) _⟩

set_option maxHeartbeats 4000000 in
set_option maxRecDepth 100000 in
theorem find_avg_over_time (w : World) : Calls Try.prog 23 #[.string ⟨#[97, 118, 103, 95, 111, 118, 101, 114, 95, 116, 105, 109, 101]⟩] w (PlainRet (.func (.func 35) #[] #[]) w) := by
  have HP : Hid (∀ w1, Calls Try.prog 29 #[.func (.func 35) #[] #[]] w1 (PlainRet (.func (.func 35) #[] #[]) w1)) := fun w1 => plain_any _ w1
  go_enter Try.func23, Try.ntmps23
  have HM : Hid (Bk.Is (w.alloc (.cells #[.int .i64 0, .int .i64 0, .nilFunc] 49)) w.heap.size #[.int .i64 0, .int .i64 0, .nilFunc] 49) := Bk.Is.made w _ _
  go_wp2_with (first | (go_at_call 29; ((with_reducible refine (HP.out _).mono ?_); rintro e w1 ⟨B, rfl, hB, hc, b1⟩; unfold ruleV; have HI := Lib.hid (HM.out.below b1 (by simp)); have HBB := Lib.hid hB; have HC := Lib.hid hc; have B1 := Lib.hid b1; clear hB hc b1)) | (refine Bk.is_store 49 rfl ?_; refine wpList_store_row rfl 49 _ _ rfl w.heap.size #[.int .i64 1, .int .i64 0, .func (.func 45) #[] #[.pointer (some ⟨B, 0, none⟩)]] rfl rfl 49 #[.int .i64 0, .int .i64 0, .nilFunc] HI.out (by kernel_rfl) rfl (by kernel_rfl) ?_))
  refine Bk.ret_block (HI.out.setRow _) rfl rfl Try.underlying49 rfl (by kernel_rfl) rfl ?_
  have hB := HBB.out
  simp at hB
  exact ⟨B, rfl, by omega, by rw [setRow_old (by omega)]; exact HC.out, Bk.below_setRow (((Below.refl _ _).alloc (Nat.le_refl _) _).trans (B1.out.mono (by simp))) (Nat.le_refl _) _⟩

set_option maxHeartbeats 4000000 in
set_option maxRecDepth 100000 in
theorem find_stddev_over_time (w : World) : Calls Try.prog 23 #[.string ⟨#[115, 116, 100, 100, 101, 118, 95, 111, 118, 101, 114, 95, 116, 105, 109, 101]⟩] w (PlainRet (.func (.func 36) #[] #[]) w) := by
  have HP : Hid (∀ w1, Calls Try.prog 29 #[.func (.func 36) #[] #[]] w1 (PlainRet (.func (.func 36) #[] #[]) w1)) := fun w1 => plain_any _ w1
  go_enter Try.func23, Try.ntmps23
  have HM : Hid (Bk.Is (w.alloc (.cells #[.int .i64 0, .int .i64 0, .nilFunc] 49)) w.heap.size #[.int .i64 0, .int .i64 0, .nilFunc] 49) := Bk.Is.made w _ _
  go_wp2_with (first | (go_at_call 29; ((with_reducible refine (HP.out _).mono ?_); rintro e w1 ⟨B, rfl, hB, hc, b1⟩; unfold ruleV; have HI := Lib.hid (HM.out.below b1 (by simp)); have HBB := Lib.hid hB; have HC := Lib.hid hc; have B1 := Lib.hid b1; clear hB hc b1)) | (refine Bk.is_store 49 rfl ?_; refine wpList_store_row rfl 49 _ _ rfl w.heap.size #[.int .i64 1, .int .i64 0, .func (.func 45) #[] #[.pointer (some ⟨B, 0, none⟩)]] rfl rfl 49 #[.int .i64 0, .int .i64 0, .nilFunc] HI.out (by kernel_rfl) rfl (by kernel_rfl) ?_))
  refine Bk.ret_block (HI.out.setRow _) rfl rfl Try.underlying49 rfl (by kernel_rfl) rfl ?_
  have hB := HBB.out
  simp at hB
  exact ⟨B, rfl, by omega, by rw [setRow_old (by omega)]; exact HC.out, Bk.below_setRow (((Below.refl _ _).alloc (Nat.le_refl _) _).trans (B1.out.mono (by simp))) (Nat.le_refl _) _⟩

set_option maxHeartbeats 4000000 in
set_option maxRecDepth 100000 in
theorem find_stdvar_over_time (w : World) : Calls Try.prog 23 #[.string ⟨#[115, 116, 100, 118, 97, 114, 95, 111, 118, 101, 114, 95, 116, 105, 109, 101]⟩] w (PlainRet (.func (.func 37) #[] #[]) w) := by
  have HP : Hid (∀ w1, Calls Try.prog 29 #[.func (.func 37) #[] #[]] w1 (PlainRet (.func (.func 37) #[] #[]) w1)) := fun w1 => plain_any _ w1
  go_enter Try.func23, Try.ntmps23
  have HM : Hid (Bk.Is (w.alloc (.cells #[.int .i64 0, .int .i64 0, .nilFunc] 49)) w.heap.size #[.int .i64 0, .int .i64 0, .nilFunc] 49) := Bk.Is.made w _ _
  go_wp2_with (first | (go_at_call 29; ((with_reducible refine (HP.out _).mono ?_); rintro e w1 ⟨B, rfl, hB, hc, b1⟩; unfold ruleV; have HI := Lib.hid (HM.out.below b1 (by simp)); have HBB := Lib.hid hB; have HC := Lib.hid hc; have B1 := Lib.hid b1; clear hB hc b1)) | (refine Bk.is_store 49 rfl ?_; refine wpList_store_row rfl 49 _ _ rfl w.heap.size #[.int .i64 1, .int .i64 0, .func (.func 45) #[] #[.pointer (some ⟨B, 0, none⟩)]] rfl rfl 49 #[.int .i64 0, .int .i64 0, .nilFunc] HI.out (by kernel_rfl) rfl (by kernel_rfl) ?_))
  refine Bk.ret_block (HI.out.setRow _) rfl rfl Try.underlying49 rfl (by kernel_rfl) rfl ?_
  have hB := HBB.out
  simp at hB
  exact ⟨B, rfl, by omega, by rw [setRow_old (by omega)]; exact HC.out, Bk.below_setRow (((Below.refl _ _).alloc (Nat.le_refl _) _).trans (B1.out.mono (by simp))) (Nat.le_refl _) _⟩

set_option maxHeartbeats 4000000 in
set_option maxRecDepth 100000 in
theorem find_max_over_time (w : World) : Calls Try.prog 23 #[.string ⟨#[109, 97, 120, 95, 111, 118, 101, 114, 95, 116, 105, 109, 101]⟩] w (PlainRet (.func (.func 38) #[] #[]) w) := by
  have HP : Hid (∀ w1, Calls Try.prog 29 #[.func (.func 38) #[] #[]] w1 (PlainRet (.func (.func 38) #[] #[]) w1)) := fun w1 => plain_any _ w1
  go_enter Try.func23, Try.ntmps23
  have HM : Hid (Bk.Is (w.alloc (.cells #[.int .i64 0, .int .i64 0, .nilFunc] 49)) w.heap.size #[.int .i64 0, .int .i64 0, .nilFunc] 49) := Bk.Is.made w _ _
  go_wp2_with (first | (go_at_call 29; ((with_reducible refine (HP.out _).mono ?_); rintro e w1 ⟨B, rfl, hB, hc, b1⟩; unfold ruleV; have HI := Lib.hid (HM.out.below b1 (by simp)); have HBB := Lib.hid hB; have HC := Lib.hid hc; have B1 := Lib.hid b1; clear hB hc b1)) | (refine Bk.is_store 49 rfl ?_; refine wpList_store_row rfl 49 _ _ rfl w.heap.size #[.int .i64 1, .int .i64 0, .func (.func 45) #[] #[.pointer (some ⟨B, 0, none⟩)]] rfl rfl 49 #[.int .i64 0, .int .i64 0, .nilFunc] HI.out (by kernel_rfl) rfl (by kernel_rfl) ?_))
  refine Bk.ret_block (HI.out.setRow _) rfl rfl Try.underlying49 rfl (by kernel_rfl) rfl ?_
  have hB := HBB.out
  simp at hB
  exact ⟨B, rfl, by omega, by rw [setRow_old (by omega)]; exact HC.out, Bk.below_setRow (((Below.refl _ _).alloc (Nat.le_refl _) _).trans (B1.out.mono (by simp))) (Nat.le_refl _) _⟩

set_option maxHeartbeats 4000000 in
set_option maxRecDepth 100000 in
theorem find_min_over_time (w : World) : Calls Try.prog 23 #[.string ⟨#[109, 105, 110, 95, 111, 118, 101, 114, 95, 116, 105, 109, 101]⟩] w (PlainRet (.func (.func 40) #[] #[]) w) := by
  have HP : Hid (∀ w1, Calls Try.prog 29 #[.func (.func 40) #[] #[]] w1 (PlainRet (.func (.func 40) #[] #[]) w1)) := fun w1 => plain_any _ w1
  go_enter Try.func23, Try.ntmps23
  have HM : Hid (Bk.Is (w.alloc (.cells #[.int .i64 0, .int .i64 0, .nilFunc] 49)) w.heap.size #[.int .i64 0, .int .i64 0, .nilFunc] 49) := Bk.Is.made w _ _
  go_wp2_with (first | (go_at_call 29; ((with_reducible refine (HP.out _).mono ?_); rintro e w1 ⟨B, rfl, hB, hc, b1⟩; unfold ruleV; have HI := Lib.hid (HM.out.below b1 (by simp)); have HBB := Lib.hid hB; have HC := Lib.hid hc; have B1 := Lib.hid b1; clear hB hc b1)) | (refine Bk.is_store 49 rfl ?_; refine wpList_store_row rfl 49 _ _ rfl w.heap.size #[.int .i64 1, .int .i64 0, .func (.func 45) #[] #[.pointer (some ⟨B, 0, none⟩)]] rfl rfl 49 #[.int .i64 0, .int .i64 0, .nilFunc] HI.out (by kernel_rfl) rfl (by kernel_rfl) ?_))
  refine Bk.ret_block (HI.out.setRow _) rfl rfl Try.underlying49 rfl (by kernel_rfl) rfl ?_
  have hB := HBB.out
  simp at hB
  exact ⟨B, rfl, by omega, by rw [setRow_old (by omega)]; exact HC.out, Bk.below_setRow (((Below.refl _ _).alloc (Nat.le_refl _) _).trans (B1.out.mono (by simp))) (Nat.le_refl _) _⟩

set_option maxHeartbeats 4000000 in
set_option maxRecDepth 100000 in
theorem find_mad_over_time (w : World) : Calls Try.prog 23 #[.string ⟨#[109, 97, 100, 95, 111, 118, 101, 114, 95, 116, 105, 109, 101]⟩] w (PlainRet (.func (.func 41) #[] #[]) w) := by
  have HP : Hid (∀ w1, Calls Try.prog 29 #[.func (.func 41) #[] #[]] w1 (PlainRet (.func (.func 41) #[] #[]) w1)) := fun w1 => plain_any _ w1
  go_enter Try.func23, Try.ntmps23
  have HM : Hid (Bk.Is (w.alloc (.cells #[.int .i64 0, .int .i64 0, .nilFunc] 49)) w.heap.size #[.int .i64 0, .int .i64 0, .nilFunc] 49) := Bk.Is.made w _ _
  go_wp2_with (first | (go_at_call 29; ((with_reducible refine (HP.out _).mono ?_); rintro e w1 ⟨B, rfl, hB, hc, b1⟩; unfold ruleV; have HI := Lib.hid (HM.out.below b1 (by simp)); have HBB := Lib.hid hB; have HC := Lib.hid hc; have B1 := Lib.hid b1; clear hB hc b1)) | (refine Bk.is_store 49 rfl ?_; refine wpList_store_row rfl 49 _ _ rfl w.heap.size #[.int .i64 1, .int .i64 0, .func (.func 45) #[] #[.pointer (some ⟨B, 0, none⟩)]] rfl rfl 49 #[.int .i64 0, .int .i64 0, .nilFunc] HI.out (by kernel_rfl) rfl (by kernel_rfl) ?_))
  refine Bk.ret_block (HI.out.setRow _) rfl rfl Try.underlying49 rfl (by kernel_rfl) rfl ?_
  have hB := HBB.out
  simp at hB
  exact ⟨B, rfl, by omega, by rw [setRow_old (by omega)]; exact HC.out, Bk.below_setRow (((Below.refl _ _).alloc (Nat.le_refl _) _).trans (B1.out.mono (by simp))) (Nat.le_refl _) _⟩

set_option maxHeartbeats 4000000 in
set_option maxRecDepth 100000 in
theorem find_changes (w : World) : Calls Try.prog 23 #[.string ⟨#[99, 104, 97, 110, 103, 101, 115]⟩] w (PlainRet (.func (.func 42) #[] #[]) w) := by
  have HP : Hid (∀ w1, Calls Try.prog 29 #[.func (.func 42) #[] #[]] w1 (PlainRet (.func (.func 42) #[] #[]) w1)) := fun w1 => plain_any _ w1
  go_enter Try.func23, Try.ntmps23
  have HM : Hid (Bk.Is (w.alloc (.cells #[.int .i64 0, .int .i64 0, .nilFunc] 49)) w.heap.size #[.int .i64 0, .int .i64 0, .nilFunc] 49) := Bk.Is.made w _ _
  go_wp2_with (first | (go_at_call 29; ((with_reducible refine (HP.out _).mono ?_); rintro e w1 ⟨B, rfl, hB, hc, b1⟩; unfold ruleV; have HI := Lib.hid (HM.out.below b1 (by simp)); have HBB := Lib.hid hB; have HC := Lib.hid hc; have B1 := Lib.hid b1; clear hB hc b1)) | (refine Bk.is_store 49 rfl ?_; refine wpList_store_row rfl 49 _ _ rfl w.heap.size #[.int .i64 1, .int .i64 0, .func (.func 45) #[] #[.pointer (some ⟨B, 0, none⟩)]] rfl rfl 49 #[.int .i64 0, .int .i64 0, .nilFunc] HI.out (by kernel_rfl) rfl (by kernel_rfl) ?_))
  refine Bk.ret_block (HI.out.setRow _) rfl rfl Try.underlying49 rfl (by kernel_rfl) rfl ?_
  have hB := HBB.out
  simp at hB
  exact ⟨B, rfl, by omega, by rw [setRow_old (by omega)]; exact HC.out, Bk.below_setRow (((Below.refl _ _).alloc (Nat.le_refl _) _).trans (B1.out.mono (by simp))) (Nat.le_refl _) _⟩

set_option maxHeartbeats 4000000 in
set_option maxRecDepth 100000 in
theorem find_resets (w : World) : Calls Try.prog 23 #[.string ⟨#[114, 101, 115, 101, 116, 115]⟩] w (PlainRet (.func (.func 43) #[] #[]) w) := by
  have HP : Hid (∀ w1, Calls Try.prog 29 #[.func (.func 43) #[] #[]] w1 (PlainRet (.func (.func 43) #[] #[]) w1)) := fun w1 => plain_any _ w1
  go_enter Try.func23, Try.ntmps23
  have HM : Hid (Bk.Is (w.alloc (.cells #[.int .i64 0, .int .i64 0, .nilFunc] 49)) w.heap.size #[.int .i64 0, .int .i64 0, .nilFunc] 49) := Bk.Is.made w _ _
  go_wp2_with (first | (go_at_call 29; ((with_reducible refine (HP.out _).mono ?_); rintro e w1 ⟨B, rfl, hB, hc, b1⟩; unfold ruleV; have HI := Lib.hid (HM.out.below b1 (by simp)); have HBB := Lib.hid hB; have HC := Lib.hid hc; have B1 := Lib.hid b1; clear hB hc b1)) | (refine Bk.is_store 49 rfl ?_; refine wpList_store_row rfl 49 _ _ rfl w.heap.size #[.int .i64 1, .int .i64 0, .func (.func 45) #[] #[.pointer (some ⟨B, 0, none⟩)]] rfl rfl 49 #[.int .i64 0, .int .i64 0, .nilFunc] HI.out (by kernel_rfl) rfl (by kernel_rfl) ?_))
  refine Bk.ret_block (HI.out.setRow _) rfl rfl Try.underlying49 rfl (by kernel_rfl) rfl ?_
  have hB := HBB.out
  simp at hB
  exact ⟨B, rfl, by omega, by rw [setRow_old (by omega)]; exact HC.out, Bk.below_setRow (((Below.refl _ _).alloc (Nat.le_refl _) _).trans (B1.out.mono (by simp))) (Nat.le_refl _) _⟩

def RuleRet (p k : Int) (fn : Nat) (w : World) (e : Ending) (w' : World) : Prop := e = .returned (ruleV p k (.func (.func fn) #[] #[])) ∧ Below w.heap.size w w'

set_option maxHeartbeats 4000000 in
set_option maxRecDepth 100000 in
theorem more_rate (w : World) : Calls Try.prog 44 #[.string ⟨#[114, 97, 116, 101]⟩] w (GrowRet true true w) := by
  have HP : Hid (∀ w1, Calls Try.prog 54 #[.bool true, .bool true] w1 (GrowRet true true w1)) := fun w1 => growth_any true true w1
  go_enter Try.func44, Try.ntmps44
  have HM : Hid (Bk.Is (w.alloc (.cells #[.int .i64 0, .int .i64 0, .nilFunc] 49)) w.heap.size #[.int .i64 0, .int .i64 0, .nilFunc] 49) := Bk.Is.made w _ _
  go_wp2_with (first | (go_at_call 54; ((with_reducible refine (HP.out _).mono ?_); rintro e w1 ⟨B, C, rfl, hB, hB2, hc, hc2, b1⟩; unfold ruleV; have HI := Lib.hid (HM.out.below b1 (by simp)); have HBB := Lib.hid hB; have HBC := Lib.hid hB2; have HC := Lib.hid hc; have HC2 := Lib.hid hc2; have B1 := Lib.hid b1; clear hB hB2 hc hc2 b1)) | (refine Bk.is_store 49 rfl ?_; refine wpList_store_row rfl 49 _ _ rfl w.heap.size #[.int .i64 2, .int .i64 0, .func (.func 75) #[] #[.pointer (some ⟨B, 0, none⟩), .pointer (some ⟨C, 0, none⟩)]] rfl rfl 49 #[.int .i64 0, .int .i64 0, .nilFunc] HI.out (by kernel_rfl) rfl (by kernel_rfl) ?_))
  refine Bk.ret_block (HI.out.setRow _) rfl rfl Try.underlying49 rfl (by kernel_rfl) rfl ?_
  have hB := HBB.out
  have hB2 := HBC.out
  simp at hB hB2
  exact ⟨B, C, rfl, by omega, by omega, by rw [setRow_old (by omega)]; exact HC.out, by rw [setRow_old (by omega)]; exact HC2.out, Bk.below_setRow (((Below.refl _ _).alloc (Nat.le_refl _) _).trans (B1.out.mono (by simp))) (Nat.le_refl _) _⟩

set_option maxHeartbeats 4000000 in
set_option maxRecDepth 100000 in
theorem find_rate (w : World) : Calls Try.prog 23 #[.string ⟨#[114, 97, 116, 101]⟩] w (GrowRet true true w) := by
  have HP : Hid (∀ w1, Calls Try.prog 44 #[.string ⟨#[114, 97, 116, 101]⟩] w1 (GrowRet true true w1)) := fun w1 => more_rate w1
  go_enter Try.func23, Try.ntmps23
  have HM : Hid (Bk.Is (w.alloc (.cells #[.int .i64 0, .int .i64 0, .nilFunc] 49)) w.heap.size #[.int .i64 0, .int .i64 0, .nilFunc] 49) := Bk.Is.made w _ _
  go_wp2_with (first | (go_at_call 44; ((with_reducible refine (HP.out _).mono ?_); rintro e w1 ⟨B, C, rfl, hB, hB2, hc, hc2, b1⟩; unfold ruleV; have HI := Lib.hid (HM.out.below b1 (by simp)); have HBB := Lib.hid hB; have HBC := Lib.hid hB2; have HC := Lib.hid hc; have HC2 := Lib.hid hc2; have B1 := Lib.hid b1; clear hB hB2 hc hc2 b1)) | (refine Bk.is_store 49 rfl ?_; refine wpList_store_row rfl 49 _ _ rfl w.heap.size #[.int .i64 2, .int .i64 0, .func (.func 75) #[] #[.pointer (some ⟨B, 0, none⟩), .pointer (some ⟨C, 0, none⟩)]] rfl rfl 49 #[.int .i64 0, .int .i64 0, .nilFunc] HI.out (by kernel_rfl) rfl (by kernel_rfl) ?_))
  refine Bk.ret_block (HI.out.setRow _) rfl rfl Try.underlying49 rfl (by kernel_rfl) rfl ?_
  have hB := HBB.out
  have hB2 := HBC.out
  simp at hB hB2
  exact ⟨B, C, rfl, by omega, by omega, by rw [setRow_old (by omega)]; exact HC.out, by rw [setRow_old (by omega)]; exact HC2.out, Bk.below_setRow (((Below.refl _ _).alloc (Nat.le_refl _) _).trans (B1.out.mono (by simp))) (Nat.le_refl _) _⟩

set_option maxHeartbeats 4000000 in
set_option maxRecDepth 100000 in
theorem more_increase (w : World) : Calls Try.prog 44 #[.string ⟨#[105, 110, 99, 114, 101, 97, 115, 101]⟩] w (GrowRet true false w) := by
  have HP : Hid (∀ w1, Calls Try.prog 54 #[.bool true, .bool false] w1 (GrowRet true false w1)) := fun w1 => growth_any true false w1
  go_enter Try.func44, Try.ntmps44
  have HM : Hid (Bk.Is (w.alloc (.cells #[.int .i64 0, .int .i64 0, .nilFunc] 49)) w.heap.size #[.int .i64 0, .int .i64 0, .nilFunc] 49) := Bk.Is.made w _ _
  go_wp2_with (first | (go_at_call 54; ((with_reducible refine (HP.out _).mono ?_); rintro e w1 ⟨B, C, rfl, hB, hB2, hc, hc2, b1⟩; unfold ruleV; have HI := Lib.hid (HM.out.below b1 (by simp)); have HBB := Lib.hid hB; have HBC := Lib.hid hB2; have HC := Lib.hid hc; have HC2 := Lib.hid hc2; have B1 := Lib.hid b1; clear hB hB2 hc hc2 b1)) | (refine Bk.is_store 49 rfl ?_; refine wpList_store_row rfl 49 _ _ rfl w.heap.size #[.int .i64 2, .int .i64 0, .func (.func 75) #[] #[.pointer (some ⟨B, 0, none⟩), .pointer (some ⟨C, 0, none⟩)]] rfl rfl 49 #[.int .i64 0, .int .i64 0, .nilFunc] HI.out (by kernel_rfl) rfl (by kernel_rfl) ?_))
  refine Bk.ret_block (HI.out.setRow _) rfl rfl Try.underlying49 rfl (by kernel_rfl) rfl ?_
  have hB := HBB.out
  have hB2 := HBC.out
  simp at hB hB2
  exact ⟨B, C, rfl, by omega, by omega, by rw [setRow_old (by omega)]; exact HC.out, by rw [setRow_old (by omega)]; exact HC2.out, Bk.below_setRow (((Below.refl _ _).alloc (Nat.le_refl _) _).trans (B1.out.mono (by simp))) (Nat.le_refl _) _⟩

set_option maxHeartbeats 4000000 in
set_option maxRecDepth 100000 in
theorem find_increase (w : World) : Calls Try.prog 23 #[.string ⟨#[105, 110, 99, 114, 101, 97, 115, 101]⟩] w (GrowRet true false w) := by
  have HP : Hid (∀ w1, Calls Try.prog 44 #[.string ⟨#[105, 110, 99, 114, 101, 97, 115, 101]⟩] w1 (GrowRet true false w1)) := fun w1 => more_increase w1
  go_enter Try.func23, Try.ntmps23
  have HM : Hid (Bk.Is (w.alloc (.cells #[.int .i64 0, .int .i64 0, .nilFunc] 49)) w.heap.size #[.int .i64 0, .int .i64 0, .nilFunc] 49) := Bk.Is.made w _ _
  go_wp2_with (first | (go_at_call 44; ((with_reducible refine (HP.out _).mono ?_); rintro e w1 ⟨B, C, rfl, hB, hB2, hc, hc2, b1⟩; unfold ruleV; have HI := Lib.hid (HM.out.below b1 (by simp)); have HBB := Lib.hid hB; have HBC := Lib.hid hB2; have HC := Lib.hid hc; have HC2 := Lib.hid hc2; have B1 := Lib.hid b1; clear hB hB2 hc hc2 b1)) | (refine Bk.is_store 49 rfl ?_; refine wpList_store_row rfl 49 _ _ rfl w.heap.size #[.int .i64 2, .int .i64 0, .func (.func 75) #[] #[.pointer (some ⟨B, 0, none⟩), .pointer (some ⟨C, 0, none⟩)]] rfl rfl 49 #[.int .i64 0, .int .i64 0, .nilFunc] HI.out (by kernel_rfl) rfl (by kernel_rfl) ?_))
  refine Bk.ret_block (HI.out.setRow _) rfl rfl Try.underlying49 rfl (by kernel_rfl) rfl ?_
  have hB := HBB.out
  have hB2 := HBC.out
  simp at hB hB2
  exact ⟨B, C, rfl, by omega, by omega, by rw [setRow_old (by omega)]; exact HC.out, by rw [setRow_old (by omega)]; exact HC2.out, Bk.below_setRow (((Below.refl _ _).alloc (Nat.le_refl _) _).trans (B1.out.mono (by simp))) (Nat.le_refl _) _⟩

set_option maxHeartbeats 4000000 in
set_option maxRecDepth 100000 in
theorem more_delta (w : World) : Calls Try.prog 44 #[.string ⟨#[100, 101, 108, 116, 97]⟩] w (GrowRet false false w) := by
  have HP : Hid (∀ w1, Calls Try.prog 54 #[.bool false, .bool false] w1 (GrowRet false false w1)) := fun w1 => growth_any false false w1
  go_enter Try.func44, Try.ntmps44
  have HM : Hid (Bk.Is (w.alloc (.cells #[.int .i64 0, .int .i64 0, .nilFunc] 49)) w.heap.size #[.int .i64 0, .int .i64 0, .nilFunc] 49) := Bk.Is.made w _ _
  go_wp2_with (first | (go_at_call 54; ((with_reducible refine (HP.out _).mono ?_); rintro e w1 ⟨B, C, rfl, hB, hB2, hc, hc2, b1⟩; unfold ruleV; have HI := Lib.hid (HM.out.below b1 (by simp)); have HBB := Lib.hid hB; have HBC := Lib.hid hB2; have HC := Lib.hid hc; have HC2 := Lib.hid hc2; have B1 := Lib.hid b1; clear hB hB2 hc hc2 b1)) | (refine Bk.is_store 49 rfl ?_; refine wpList_store_row rfl 49 _ _ rfl w.heap.size #[.int .i64 2, .int .i64 0, .func (.func 75) #[] #[.pointer (some ⟨B, 0, none⟩), .pointer (some ⟨C, 0, none⟩)]] rfl rfl 49 #[.int .i64 0, .int .i64 0, .nilFunc] HI.out (by kernel_rfl) rfl (by kernel_rfl) ?_))
  refine Bk.ret_block (HI.out.setRow _) rfl rfl Try.underlying49 rfl (by kernel_rfl) rfl ?_
  have hB := HBB.out
  have hB2 := HBC.out
  simp at hB hB2
  exact ⟨B, C, rfl, by omega, by omega, by rw [setRow_old (by omega)]; exact HC.out, by rw [setRow_old (by omega)]; exact HC2.out, Bk.below_setRow (((Below.refl _ _).alloc (Nat.le_refl _) _).trans (B1.out.mono (by simp))) (Nat.le_refl _) _⟩

set_option maxHeartbeats 4000000 in
set_option maxRecDepth 100000 in
theorem find_delta (w : World) : Calls Try.prog 23 #[.string ⟨#[100, 101, 108, 116, 97]⟩] w (GrowRet false false w) := by
  have HP : Hid (∀ w1, Calls Try.prog 44 #[.string ⟨#[100, 101, 108, 116, 97]⟩] w1 (GrowRet false false w1)) := fun w1 => more_delta w1
  go_enter Try.func23, Try.ntmps23
  have HM : Hid (Bk.Is (w.alloc (.cells #[.int .i64 0, .int .i64 0, .nilFunc] 49)) w.heap.size #[.int .i64 0, .int .i64 0, .nilFunc] 49) := Bk.Is.made w _ _
  go_wp2_with (first | (go_at_call 44; ((with_reducible refine (HP.out _).mono ?_); rintro e w1 ⟨B, C, rfl, hB, hB2, hc, hc2, b1⟩; unfold ruleV; have HI := Lib.hid (HM.out.below b1 (by simp)); have HBB := Lib.hid hB; have HBC := Lib.hid hB2; have HC := Lib.hid hc; have HC2 := Lib.hid hc2; have B1 := Lib.hid b1; clear hB hB2 hc hc2 b1)) | (refine Bk.is_store 49 rfl ?_; refine wpList_store_row rfl 49 _ _ rfl w.heap.size #[.int .i64 2, .int .i64 0, .func (.func 75) #[] #[.pointer (some ⟨B, 0, none⟩), .pointer (some ⟨C, 0, none⟩)]] rfl rfl 49 #[.int .i64 0, .int .i64 0, .nilFunc] HI.out (by kernel_rfl) rfl (by kernel_rfl) ?_))
  refine Bk.ret_block (HI.out.setRow _) rfl rfl Try.underlying49 rfl (by kernel_rfl) rfl ?_
  have hB := HBB.out
  have hB2 := HBC.out
  simp at hB hB2
  exact ⟨B, C, rfl, by omega, by omega, by rw [setRow_old (by omega)]; exact HC.out, by rw [setRow_old (by omega)]; exact HC2.out, Bk.below_setRow (((Below.refl _ _).alloc (Nat.le_refl _) _).trans (B1.out.mono (by simp))) (Nat.le_refl _) _⟩

set_option maxHeartbeats 4000000 in
set_option maxRecDepth 100000 in
theorem more_irate (w : World) : Calls Try.prog 44 #[.string ⟨#[105, 114, 97, 116, 101]⟩] w (LastRet true w) := by
  have HP : Hid (∀ w1, Calls Try.prog 55 #[.bool true] w1 (LastRet true w1)) := fun w1 => last_any true w1
  go_enter Try.func44, Try.ntmps44
  have HM : Hid (Bk.Is (w.alloc (.cells #[.int .i64 0, .int .i64 0, .nilFunc] 49)) w.heap.size #[.int .i64 0, .int .i64 0, .nilFunc] 49) := Bk.Is.made w _ _
  go_wp2_with (first | (go_at_call 55; ((with_reducible refine (HP.out _).mono ?_); rintro e w1 ⟨B, rfl, hB, hc, b1⟩; unfold ruleV; have HI := Lib.hid (HM.out.below b1 (by simp)); have HBB := Lib.hid hB; have HC := Lib.hid hc; have B1 := Lib.hid b1; clear hB hc b1)) | (refine Bk.is_store 49 rfl ?_; refine wpList_store_row rfl 49 _ _ rfl w.heap.size #[.int .i64 2, .int .i64 0, .func (.func 76) #[] #[.pointer (some ⟨B, 0, none⟩)]] rfl rfl 49 #[.int .i64 0, .int .i64 0, .nilFunc] HI.out (by kernel_rfl) rfl (by kernel_rfl) ?_))
  refine Bk.ret_block (HI.out.setRow _) rfl rfl Try.underlying49 rfl (by kernel_rfl) rfl ?_
  have hB := HBB.out
  simp at hB
  exact ⟨B, rfl, by omega, by rw [setRow_old (by omega)]; exact HC.out, Bk.below_setRow (((Below.refl _ _).alloc (Nat.le_refl _) _).trans (B1.out.mono (by simp))) (Nat.le_refl _) _⟩

set_option maxHeartbeats 4000000 in
set_option maxRecDepth 100000 in
theorem find_irate (w : World) : Calls Try.prog 23 #[.string ⟨#[105, 114, 97, 116, 101]⟩] w (LastRet true w) := by
  have HP : Hid (∀ w1, Calls Try.prog 44 #[.string ⟨#[105, 114, 97, 116, 101]⟩] w1 (LastRet true w1)) := fun w1 => more_irate w1
  go_enter Try.func23, Try.ntmps23
  have HM : Hid (Bk.Is (w.alloc (.cells #[.int .i64 0, .int .i64 0, .nilFunc] 49)) w.heap.size #[.int .i64 0, .int .i64 0, .nilFunc] 49) := Bk.Is.made w _ _
  go_wp2_with (first | (go_at_call 44; ((with_reducible refine (HP.out _).mono ?_); rintro e w1 ⟨B, rfl, hB, hc, b1⟩; unfold ruleV; have HI := Lib.hid (HM.out.below b1 (by simp)); have HBB := Lib.hid hB; have HC := Lib.hid hc; have B1 := Lib.hid b1; clear hB hc b1)) | (refine Bk.is_store 49 rfl ?_; refine wpList_store_row rfl 49 _ _ rfl w.heap.size #[.int .i64 2, .int .i64 0, .func (.func 76) #[] #[.pointer (some ⟨B, 0, none⟩)]] rfl rfl 49 #[.int .i64 0, .int .i64 0, .nilFunc] HI.out (by kernel_rfl) rfl (by kernel_rfl) ?_))
  refine Bk.ret_block (HI.out.setRow _) rfl rfl Try.underlying49 rfl (by kernel_rfl) rfl ?_
  have hB := HBB.out
  simp at hB
  exact ⟨B, rfl, by omega, by rw [setRow_old (by omega)]; exact HC.out, Bk.below_setRow (((Below.refl _ _).alloc (Nat.le_refl _) _).trans (B1.out.mono (by simp))) (Nat.le_refl _) _⟩

set_option maxHeartbeats 4000000 in
set_option maxRecDepth 100000 in
theorem more_idelta (w : World) : Calls Try.prog 44 #[.string ⟨#[105, 100, 101, 108, 116, 97]⟩] w (LastRet false w) := by
  have HP : Hid (∀ w1, Calls Try.prog 55 #[.bool false] w1 (LastRet false w1)) := fun w1 => last_any false w1
  go_enter Try.func44, Try.ntmps44
  have HM : Hid (Bk.Is (w.alloc (.cells #[.int .i64 0, .int .i64 0, .nilFunc] 49)) w.heap.size #[.int .i64 0, .int .i64 0, .nilFunc] 49) := Bk.Is.made w _ _
  go_wp2_with (first | (go_at_call 55; ((with_reducible refine (HP.out _).mono ?_); rintro e w1 ⟨B, rfl, hB, hc, b1⟩; unfold ruleV; have HI := Lib.hid (HM.out.below b1 (by simp)); have HBB := Lib.hid hB; have HC := Lib.hid hc; have B1 := Lib.hid b1; clear hB hc b1)) | (refine Bk.is_store 49 rfl ?_; refine wpList_store_row rfl 49 _ _ rfl w.heap.size #[.int .i64 2, .int .i64 0, .func (.func 76) #[] #[.pointer (some ⟨B, 0, none⟩)]] rfl rfl 49 #[.int .i64 0, .int .i64 0, .nilFunc] HI.out (by kernel_rfl) rfl (by kernel_rfl) ?_))
  refine Bk.ret_block (HI.out.setRow _) rfl rfl Try.underlying49 rfl (by kernel_rfl) rfl ?_
  have hB := HBB.out
  simp at hB
  exact ⟨B, rfl, by omega, by rw [setRow_old (by omega)]; exact HC.out, Bk.below_setRow (((Below.refl _ _).alloc (Nat.le_refl _) _).trans (B1.out.mono (by simp))) (Nat.le_refl _) _⟩

set_option maxHeartbeats 4000000 in
set_option maxRecDepth 100000 in
theorem find_idelta (w : World) : Calls Try.prog 23 #[.string ⟨#[105, 100, 101, 108, 116, 97]⟩] w (LastRet false w) := by
  have HP : Hid (∀ w1, Calls Try.prog 44 #[.string ⟨#[105, 100, 101, 108, 116, 97]⟩] w1 (LastRet false w1)) := fun w1 => more_idelta w1
  go_enter Try.func23, Try.ntmps23
  have HM : Hid (Bk.Is (w.alloc (.cells #[.int .i64 0, .int .i64 0, .nilFunc] 49)) w.heap.size #[.int .i64 0, .int .i64 0, .nilFunc] 49) := Bk.Is.made w _ _
  go_wp2_with (first | (go_at_call 44; ((with_reducible refine (HP.out _).mono ?_); rintro e w1 ⟨B, rfl, hB, hc, b1⟩; unfold ruleV; have HI := Lib.hid (HM.out.below b1 (by simp)); have HBB := Lib.hid hB; have HC := Lib.hid hc; have B1 := Lib.hid b1; clear hB hc b1)) | (refine Bk.is_store 49 rfl ?_; refine wpList_store_row rfl 49 _ _ rfl w.heap.size #[.int .i64 2, .int .i64 0, .func (.func 76) #[] #[.pointer (some ⟨B, 0, none⟩)]] rfl rfl 49 #[.int .i64 0, .int .i64 0, .nilFunc] HI.out (by kernel_rfl) rfl (by kernel_rfl) ?_))
  refine Bk.ret_block (HI.out.setRow _) rfl rfl Try.underlying49 rfl (by kernel_rfl) rfl ?_
  have hB := HBB.out
  simp at hB
  exact ⟨B, rfl, by omega, by rw [setRow_old (by omega)]; exact HC.out, Bk.below_setRow (((Below.refl _ _).alloc (Nat.le_refl _) _).trans (B1.out.mono (by simp))) (Nat.le_refl _) _⟩

set_option maxHeartbeats 4000000 in
set_option maxRecDepth 100000 in
theorem more_deriv (w : World) : Calls Try.prog 44 #[.string ⟨#[100, 101, 114, 105, 118]⟩] w (RuleRet 2 0 56 w) := by
  have hmf : ∀ (fn : Fn) (first cap : Array Value) (w : World), (Instr.makeFunc fn first cap).run Try.prog w = .ok (.func fn first cap) w := fun _ _ _ _ => rfl
  go_enter Try.func44, Try.ntmps44
  have HM : Hid (Bk.Is (w.alloc (.cells #[.int .i64 0, .int .i64 0, .nilFunc] 49)) w.heap.size #[.int .i64 0, .int .i64 0, .nilFunc] 49) := Bk.Is.made w _ _
  go_wp2_with (refine Bk.is_store 49 rfl ?_; refine wpList_store_row rfl 49 _ _ rfl w.heap.size #[.int .i64 2, .int .i64 0, .func (.func 56) #[] #[]] rfl rfl 49 #[.int .i64 0, .int .i64 0, .nilFunc] HM.out (by kernel_rfl) rfl (by kernel_rfl) ?_)
  refine Bk.ret_block (HM.out.setRow _) rfl rfl Try.underlying49 rfl (by kernel_rfl) rfl ?_
  exact ⟨rfl, Bk.below_setRow ((Below.refl _ _).alloc (Nat.le_refl _) _) (Nat.le_refl _) _⟩

set_option maxHeartbeats 4000000 in
set_option maxRecDepth 100000 in
theorem find_deriv (w : World) : Calls Try.prog 23 #[.string ⟨#[100, 101, 114, 105, 118]⟩] w (RuleRet 2 0 56 w) := by
  have HP : Hid (∀ w1, Calls Try.prog 44 #[.string ⟨#[100, 101, 114, 105, 118]⟩] w1 (RuleRet 2 0 56 w1)) := fun w1 => more_deriv w1
  go_enter Try.func23, Try.ntmps23
  have HM : Hid (Bk.Is (w.alloc (.cells #[.int .i64 0, .int .i64 0, .nilFunc] 49)) w.heap.size #[.int .i64 0, .int .i64 0, .nilFunc] 49) := Bk.Is.made w _ _
  go_wp2_with (first | (go_at_call 44; ((with_reducible refine (HP.out _).mono ?_); rintro e w1 ⟨rfl, b1⟩; unfold ruleV; have HI := Lib.hid (HM.out.below b1 (by simp)); have B1 := Lib.hid b1; clear b1)) | (refine Bk.is_store 49 rfl ?_; refine wpList_store_row rfl 49 _ _ rfl w.heap.size #[.int .i64 2, .int .i64 0, .func (.func 56) #[] #[]] rfl rfl 49 #[.int .i64 0, .int .i64 0, .nilFunc] HI.out (by kernel_rfl) rfl (by kernel_rfl) ?_))
  refine Bk.ret_block (HI.out.setRow _) rfl rfl Try.underlying49 rfl (by kernel_rfl) rfl ?_
  exact ⟨rfl, Bk.below_setRow (((Below.refl _ _).alloc (Nat.le_refl _) _).trans (B1.out.mono (by simp))) (Nat.le_refl _) _⟩

set_option maxHeartbeats 4000000 in
set_option maxRecDepth 100000 in
theorem more_quantile_over_time (w : World) : Calls Try.prog 44 #[.string ⟨#[113, 117, 97, 110, 116, 105, 108, 101, 95, 111, 118, 101, 114, 95, 116, 105, 109, 101]⟩] w (RuleRet 1 1 58 w) := by
  have hmf : ∀ (fn : Fn) (first cap : Array Value) (w : World), (Instr.makeFunc fn first cap).run Try.prog w = .ok (.func fn first cap) w := fun _ _ _ _ => rfl
  go_enter Try.func44, Try.ntmps44
  have HM : Hid (Bk.Is (w.alloc (.cells #[.int .i64 0, .int .i64 0, .nilFunc] 49)) w.heap.size #[.int .i64 0, .int .i64 0, .nilFunc] 49) := Bk.Is.made w _ _
  go_wp2_with (refine Bk.is_store 49 rfl ?_; refine wpList_store_row rfl 49 _ _ rfl w.heap.size #[.int .i64 1, .int .i64 1, .func (.func 58) #[] #[]] rfl rfl 49 #[.int .i64 0, .int .i64 0, .nilFunc] HM.out (by kernel_rfl) rfl (by kernel_rfl) ?_)
  refine Bk.ret_block (HM.out.setRow _) rfl rfl Try.underlying49 rfl (by kernel_rfl) rfl ?_
  exact ⟨rfl, Bk.below_setRow ((Below.refl _ _).alloc (Nat.le_refl _) _) (Nat.le_refl _) _⟩

set_option maxHeartbeats 4000000 in
set_option maxRecDepth 100000 in
theorem find_quantile_over_time (w : World) : Calls Try.prog 23 #[.string ⟨#[113, 117, 97, 110, 116, 105, 108, 101, 95, 111, 118, 101, 114, 95, 116, 105, 109, 101]⟩] w (RuleRet 1 1 58 w) := by
  have HP : Hid (∀ w1, Calls Try.prog 44 #[.string ⟨#[113, 117, 97, 110, 116, 105, 108, 101, 95, 111, 118, 101, 114, 95, 116, 105, 109, 101]⟩] w1 (RuleRet 1 1 58 w1)) := fun w1 => more_quantile_over_time w1
  go_enter Try.func23, Try.ntmps23
  have HM : Hid (Bk.Is (w.alloc (.cells #[.int .i64 0, .int .i64 0, .nilFunc] 49)) w.heap.size #[.int .i64 0, .int .i64 0, .nilFunc] 49) := Bk.Is.made w _ _
  go_wp2_with (first | (go_at_call 44; ((with_reducible refine (HP.out _).mono ?_); rintro e w1 ⟨rfl, b1⟩; unfold ruleV; have HI := Lib.hid (HM.out.below b1 (by simp)); have B1 := Lib.hid b1; clear b1)) | (refine Bk.is_store 49 rfl ?_; refine wpList_store_row rfl 49 _ _ rfl w.heap.size #[.int .i64 1, .int .i64 1, .func (.func 58) #[] #[]] rfl rfl 49 #[.int .i64 0, .int .i64 0, .nilFunc] HI.out (by kernel_rfl) rfl (by kernel_rfl) ?_))
  refine Bk.ret_block (HI.out.setRow _) rfl rfl Try.underlying49 rfl (by kernel_rfl) rfl ?_
  exact ⟨rfl, Bk.below_setRow (((Below.refl _ _).alloc (Nat.le_refl _) _).trans (B1.out.mono (by simp))) (Nat.le_refl _) _⟩

set_option maxHeartbeats 4000000 in
set_option maxRecDepth 100000 in
theorem more_predict_linear (w : World) : Calls Try.prog 44 #[.string ⟨#[112, 114, 101, 100, 105, 99, 116, 95, 108, 105, 110, 101, 97, 114]⟩] w (RuleRet 2 1 59 w) := by
  have hmf : ∀ (fn : Fn) (first cap : Array Value) (w : World), (Instr.makeFunc fn first cap).run Try.prog w = .ok (.func fn first cap) w := fun _ _ _ _ => rfl
  go_enter Try.func44, Try.ntmps44
  have HM : Hid (Bk.Is (w.alloc (.cells #[.int .i64 0, .int .i64 0, .nilFunc] 49)) w.heap.size #[.int .i64 0, .int .i64 0, .nilFunc] 49) := Bk.Is.made w _ _
  go_wp2_with (refine Bk.is_store 49 rfl ?_; refine wpList_store_row rfl 49 _ _ rfl w.heap.size #[.int .i64 2, .int .i64 1, .func (.func 59) #[] #[]] rfl rfl 49 #[.int .i64 0, .int .i64 0, .nilFunc] HM.out (by kernel_rfl) rfl (by kernel_rfl) ?_)
  refine Bk.ret_block (HM.out.setRow _) rfl rfl Try.underlying49 rfl (by kernel_rfl) rfl ?_
  exact ⟨rfl, Bk.below_setRow ((Below.refl _ _).alloc (Nat.le_refl _) _) (Nat.le_refl _) _⟩

set_option maxHeartbeats 4000000 in
set_option maxRecDepth 100000 in
theorem find_predict_linear (w : World) : Calls Try.prog 23 #[.string ⟨#[112, 114, 101, 100, 105, 99, 116, 95, 108, 105, 110, 101, 97, 114]⟩] w (RuleRet 2 1 59 w) := by
  have HP : Hid (∀ w1, Calls Try.prog 44 #[.string ⟨#[112, 114, 101, 100, 105, 99, 116, 95, 108, 105, 110, 101, 97, 114]⟩] w1 (RuleRet 2 1 59 w1)) := fun w1 => more_predict_linear w1
  go_enter Try.func23, Try.ntmps23
  have HM : Hid (Bk.Is (w.alloc (.cells #[.int .i64 0, .int .i64 0, .nilFunc] 49)) w.heap.size #[.int .i64 0, .int .i64 0, .nilFunc] 49) := Bk.Is.made w _ _
  go_wp2_with (first | (go_at_call 44; ((with_reducible refine (HP.out _).mono ?_); rintro e w1 ⟨rfl, b1⟩; unfold ruleV; have HI := Lib.hid (HM.out.below b1 (by simp)); have B1 := Lib.hid b1; clear b1)) | (refine Bk.is_store 49 rfl ?_; refine wpList_store_row rfl 49 _ _ rfl w.heap.size #[.int .i64 2, .int .i64 1, .func (.func 59) #[] #[]] rfl rfl 49 #[.int .i64 0, .int .i64 0, .nilFunc] HI.out (by kernel_rfl) rfl (by kernel_rfl) ?_))
  refine Bk.ret_block (HI.out.setRow _) rfl rfl Try.underlying49 rfl (by kernel_rfl) rfl ?_
  exact ⟨rfl, Bk.below_setRow (((Below.refl _ _).alloc (Nat.le_refl _) _).trans (B1.out.mono (by simp))) (Nat.le_refl _) _⟩

set_option maxHeartbeats 4000000 in
set_option maxRecDepth 100000 in
theorem more_double_exponential_smoothing (w : World) : Calls Try.prog 44 #[.string ⟨#[100, 111, 117, 98, 108, 101, 95, 101, 120, 112, 111, 110, 101, 110, 116, 105, 97, 108, 95, 115, 109, 111, 111, 116, 104, 105, 110, 103]⟩] w (RuleRet 2 2 60 w) := by
  have hmf : ∀ (fn : Fn) (first cap : Array Value) (w : World), (Instr.makeFunc fn first cap).run Try.prog w = .ok (.func fn first cap) w := fun _ _ _ _ => rfl
  go_enter Try.func44, Try.ntmps44
  have HM : Hid (Bk.Is (w.alloc (.cells #[.int .i64 0, .int .i64 0, .nilFunc] 49)) w.heap.size #[.int .i64 0, .int .i64 0, .nilFunc] 49) := Bk.Is.made w _ _
  go_wp2_with (refine Bk.is_store 49 rfl ?_; refine wpList_store_row rfl 49 _ _ rfl w.heap.size #[.int .i64 2, .int .i64 2, .func (.func 60) #[] #[]] rfl rfl 49 #[.int .i64 0, .int .i64 0, .nilFunc] HM.out (by kernel_rfl) rfl (by kernel_rfl) ?_)
  refine Bk.ret_block (HM.out.setRow _) rfl rfl Try.underlying49 rfl (by kernel_rfl) rfl ?_
  exact ⟨rfl, Bk.below_setRow ((Below.refl _ _).alloc (Nat.le_refl _) _) (Nat.le_refl _) _⟩

set_option maxHeartbeats 4000000 in
set_option maxRecDepth 100000 in
theorem find_double_exponential_smoothing (w : World) : Calls Try.prog 23 #[.string ⟨#[100, 111, 117, 98, 108, 101, 95, 101, 120, 112, 111, 110, 101, 110, 116, 105, 97, 108, 95, 115, 109, 111, 111, 116, 104, 105, 110, 103]⟩] w (RuleRet 2 2 60 w) := by
  have HP : Hid (∀ w1, Calls Try.prog 44 #[.string ⟨#[100, 111, 117, 98, 108, 101, 95, 101, 120, 112, 111, 110, 101, 110, 116, 105, 97, 108, 95, 115, 109, 111, 111, 116, 104, 105, 110, 103]⟩] w1 (RuleRet 2 2 60 w1)) := fun w1 => more_double_exponential_smoothing w1
  go_enter Try.func23, Try.ntmps23
  have HM : Hid (Bk.Is (w.alloc (.cells #[.int .i64 0, .int .i64 0, .nilFunc] 49)) w.heap.size #[.int .i64 0, .int .i64 0, .nilFunc] 49) := Bk.Is.made w _ _
  go_wp2_with (first | (go_at_call 44; ((with_reducible refine (HP.out _).mono ?_); rintro e w1 ⟨rfl, b1⟩; unfold ruleV; have HI := Lib.hid (HM.out.below b1 (by simp)); have B1 := Lib.hid b1; clear b1)) | (refine Bk.is_store 49 rfl ?_; refine wpList_store_row rfl 49 _ _ rfl w.heap.size #[.int .i64 2, .int .i64 2, .func (.func 60) #[] #[]] rfl rfl 49 #[.int .i64 0, .int .i64 0, .nilFunc] HI.out (by kernel_rfl) rfl (by kernel_rfl) ?_))
  refine Bk.ret_block (HI.out.setRow _) rfl rfl Try.underlying49 rfl (by kernel_rfl) rfl ?_
  exact ⟨rfl, Bk.below_setRow (((Below.refl _ _).alloc (Nat.le_refl _) _).trans (B1.out.mono (by simp))) (Nat.le_refl _) _⟩

set_option maxHeartbeats 4000000 in
set_option maxRecDepth 100000 in
theorem more_beat_over_time (w : World) : Calls Try.prog 44 #[.string ⟨#[98, 101, 97, 116, 95, 111, 118, 101, 114, 95, 116, 105, 109, 101]⟩] w (RuleRet 1 1 62 w) := by
  have hmf : ∀ (fn : Fn) (first cap : Array Value) (w : World), (Instr.makeFunc fn first cap).run Try.prog w = .ok (.func fn first cap) w := fun _ _ _ _ => rfl
  go_enter Try.func44, Try.ntmps44
  have HM : Hid (Bk.Is (w.alloc (.cells #[.int .i64 0, .int .i64 0, .nilFunc] 49)) w.heap.size #[.int .i64 0, .int .i64 0, .nilFunc] 49) := Bk.Is.made w _ _
  go_wp2_with (refine Bk.is_store 49 rfl ?_; refine wpList_store_row rfl 49 _ _ rfl w.heap.size #[.int .i64 1, .int .i64 1, .func (.func 62) #[] #[]] rfl rfl 49 #[.int .i64 0, .int .i64 0, .nilFunc] HM.out (by kernel_rfl) rfl (by kernel_rfl) ?_)
  refine Bk.ret_block (HM.out.setRow _) rfl rfl Try.underlying49 rfl (by kernel_rfl) rfl ?_
  exact ⟨rfl, Bk.below_setRow ((Below.refl _ _).alloc (Nat.le_refl _) _) (Nat.le_refl _) _⟩

set_option maxHeartbeats 4000000 in
set_option maxRecDepth 100000 in
theorem find_beat_over_time (w : World) : Calls Try.prog 23 #[.string ⟨#[98, 101, 97, 116, 95, 111, 118, 101, 114, 95, 116, 105, 109, 101]⟩] w (RuleRet 1 1 62 w) := by
  have HP : Hid (∀ w1, Calls Try.prog 44 #[.string ⟨#[98, 101, 97, 116, 95, 111, 118, 101, 114, 95, 116, 105, 109, 101]⟩] w1 (RuleRet 1 1 62 w1)) := fun w1 => more_beat_over_time w1
  go_enter Try.func23, Try.ntmps23
  have HM : Hid (Bk.Is (w.alloc (.cells #[.int .i64 0, .int .i64 0, .nilFunc] 49)) w.heap.size #[.int .i64 0, .int .i64 0, .nilFunc] 49) := Bk.Is.made w _ _
  go_wp2_with (first | (go_at_call 44; ((with_reducible refine (HP.out _).mono ?_); rintro e w1 ⟨rfl, b1⟩; unfold ruleV; have HI := Lib.hid (HM.out.below b1 (by simp)); have B1 := Lib.hid b1; clear b1)) | (refine Bk.is_store 49 rfl ?_; refine wpList_store_row rfl 49 _ _ rfl w.heap.size #[.int .i64 1, .int .i64 1, .func (.func 62) #[] #[]] rfl rfl 49 #[.int .i64 0, .int .i64 0, .nilFunc] HI.out (by kernel_rfl) rfl (by kernel_rfl) ?_))
  refine Bk.ret_block (HI.out.setRow _) rfl rfl Try.underlying49 rfl (by kernel_rfl) rfl ?_
  exact ⟨rfl, Bk.below_setRow (((Below.refl _ _).alloc (Nat.le_refl _) _).trans (B1.out.mono (by simp))) (Nat.le_refl _) _⟩
end Go.Proofs.Ytoeldcgclaiokaa
