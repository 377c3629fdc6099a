/- The running total of calc: add, answer; Sum on both sides. -/
import Derived.Test.YtllphokepjekpaaTotal
namespace Go.Proofs.Ytllphokepjekpaa
open Go.Fl Go.Rel Go.RowKit

def fge (x y : Nat) : Bool := ford x y == some .gt || ford x y == some .eq

/-- One number more: the sum, and what was lost. -/
def addT (st : Nat × Nat) (v : Nat) : Nat × Nat :=
  (fadd st.1 v, if finf (fadd st.1 v) = true then 0 else if fge (fabs st.1) (fabs v) = true then fadd st.2 (fadd (fsub st.1 (fadd st.1 v)) v) else fadd st.2 (fadd (fsub v (fadd st.1 v)) st.1))

/-- A total in memory: its sum and its loss. -/
def TotIs (w : World) (B : Nat) (st : Nat × Nat) : Prop := ∃ s c, Bk.Is w B #[.float .f64 s, .float .f64 c] 61 ∧ cn s = st.1 ∧ cn c = st.2

def AddRet (w : World) (B : Nat) (st : Nat × Nat) (e : Ending) (w' : World) : Prop :=
  e = .returned (.tuple #[]) ∧ ∃ s c n, w' = ((w.setCell ⟨B, 1, none⟩ (.float .f64 c)).setCell ⟨B, 0, none⟩ (.float .f64 s)).drewN n ∧ cn s = st.1 ∧ cn c = st.2

set_option maxHeartbeats 1000000 in
set_option maxRecDepth 100000 in
theorem add_inf (B s c v : Nat) (w : World) (h : Bk.Is w B #[.float .f64 s, .float .f64 c] 61) (hi : finf (fadd (cn s) (cn v)) = true) :
    Calls Try.prog 55 #[.pointer (some ⟨B, 0, none⟩), .float .f64 v] w (AddRet w B (addT (cn s, cn c) (cn v))) := by
  have c0 : w.cell? ⟨B, 0, none⟩ = some (.float .f64 s) := h.cell 0
  have c1 : w.cell? ⟨B, 1, none⟩ = some (.float .f64 c) := h.cell 1
  have f0 := h.free 0
  have f1 := h.free 1
  go_enter Try.func55, Try.ntmps55
  go_wp2_with (first | (refine wpList_fop _ _ _ _ _ _ _ rfl rfl rfl ?_; intro r nq hr; have Hr := Lib.hid hr; clear hr) | (go_at_call 57; refine (infinite_any _ _).mono ?_; rintro e w' ⟨rfl, rfl⟩; rw [Hr.out, fop_add, hi]))
  go_end0
  exact ⟨rfl, _, _, _, rfl, Hr.out, by rw [addT, if_pos hi]; exact cn_zero⟩

set_option maxHeartbeats 1000000 in
set_option maxRecDepth 100000 in
theorem add_ge (B s c v : Nat) (w : World) (h : Bk.Is w B #[.float .f64 s, .float .f64 c] 61) (hi : finf (fadd (cn s) (cn v)) = false) (hg : fge (fabs (cn s)) (fabs (cn v)) = true) :
    Calls Try.prog 55 #[.pointer (some ⟨B, 0, none⟩), .float .f64 v] w (AddRet w B (addT (cn s, cn c) (cn v))) := by
  have c0 : w.cell? ⟨B, 0, none⟩ = some (.float .f64 s) := h.cell 0
  have c1 : w.cell? ⟨B, 1, none⟩ = some (.float .f64 c) := h.cell 1
  have f0 := h.free 0
  have f1 := h.free 1
  have ho : (FloatKind.f64.format.order (s % top) (v % top) == some .gt || FloatKind.f64.format.order (s % top) (v % top) == some .eq) = true := by
    rw [order_cn, cn_abs, cn_abs]; exact hg
  go_enter Try.func55, Try.ntmps55
  go_wp2_with (first | (refine wpList_fop _ _ _ _ _ _ _ rfl rfl rfl ?_; intro r nq hr; have Hr := Lib.hid hr; clear hr) | (go_at_call 57; refine (infinite_any _ _).mono ?_; rintro e w' ⟨rfl, rfl⟩; rw [Hr.out, fop_add, hi]) | (go_at_call 33; refine (abs_any _ _).mono ?_; rintro e w' ⟨rfl, rfl⟩))
  refine wp_region_rel_tail (fun wd => ∃ nd, wd = w.drewN nd) (fun _ _ _ => False) (by kernel_rfl) (by kernel_rfl) rfl rfl (by repeat (first | exact ⟨_, rfl⟩ | refine drew_class _ _ ?_ | refine drewN_class _ _ _ ?_)) ?_
  dsimp only [List.dropLast]
  repeat (first | (refine wpRel_fop _ _ _ _ _ _ _ rfl rfl rfl rfl (drewN_class w) ?_; intro r hr; go_big_quiet_step (fail); refine wpQuiet_nil ?_) | (refine wpRel_quiet rfl ?_; go_big_quiet_step (fail); refine wpQuiet_nil ?_))
  refine wpRel_nil ?_
  rintro w1 ⟨m1, rfl⟩
  go_wp2_with fail
  go_end0
  refine ⟨rfl, _, _, _, rfl, Hr.out, ?_⟩
  rw [addT, if_neg (by rw [hi]; simp), if_pos hg]
  simp only [fop_add, fop_sub, Hr.out, *]

set_option maxHeartbeats 1000000 in
set_option maxRecDepth 100000 in
theorem add_lt (B s c v : Nat) (w : World) (h : Bk.Is w B #[.float .f64 s, .float .f64 c] 61) (hi : finf (fadd (cn s) (cn v)) = false) (hg : fge (fabs (cn s)) (fabs (cn v)) = false) :
    Calls Try.prog 55 #[.pointer (some ⟨B, 0, none⟩), .float .f64 v] w (AddRet w B (addT (cn s, cn c) (cn v))) := by
  have c0 : w.cell? ⟨B, 0, none⟩ = some (.float .f64 s) := h.cell 0
  have c1 : w.cell? ⟨B, 1, none⟩ = some (.float .f64 c) := h.cell 1
  have f0 := h.free 0
  have f1 := h.free 1
  have ho : (FloatKind.f64.format.order (s % top) (v % top) == some .gt || FloatKind.f64.format.order (s % top) (v % top) == some .eq) = false := by
    rw [order_cn, cn_abs, cn_abs]; exact hg
  go_enter Try.func55, Try.ntmps55
  go_wp2_with (first | (refine wpList_fop _ _ _ _ _ _ _ rfl rfl rfl ?_; intro r nq hr; have Hr := Lib.hid hr; clear hr) | (go_at_call 57; refine (infinite_any _ _).mono ?_; rintro e w' ⟨rfl, rfl⟩; rw [Hr.out, fop_add, hi]) | (go_at_call 33; refine (abs_any _ _).mono ?_; rintro e w' ⟨rfl, rfl⟩))
  refine wp_region_rel_tail (fun wd => ∃ nd, wd = w.drewN nd) (fun _ _ _ => False) (by kernel_rfl) (by kernel_rfl) rfl rfl (by repeat (first | exact ⟨_, rfl⟩ | refine drew_class _ _ ?_ | refine drewN_class _ _ _ ?_)) ?_
  dsimp only [List.dropLast]
  repeat (first | (refine wpRel_fop _ _ _ _ _ _ _ rfl rfl rfl rfl (drewN_class w) ?_; intro r hr; go_big_quiet_step (fail); refine wpQuiet_nil ?_) | (refine wpRel_quiet rfl ?_; go_big_quiet_step (fail); refine wpQuiet_nil ?_))
  refine wpRel_nil ?_
  rintro w1 ⟨m1, rfl⟩
  go_wp2_with fail
  go_end0
  refine ⟨rfl, _, _, _, rfl, Hr.out, ?_⟩
  rw [addT, if_neg (by rw [hi]; simp), if_neg (by rw [hg]; simp)]
  simp only [fop_add, fop_sub, Hr.out, *]

theorem add_any (B s c v : Nat) (w : World) (h : Bk.Is w B #[.float .f64 s, .float .f64 c] 61) :
    Calls Try.prog 55 #[.pointer (some ⟨B, 0, none⟩), .float .f64 v] w (AddRet w B (addT (cn s, cn c) (cn v))) := by
  cases hi : finf (fadd (cn s) (cn v))
  · cases hg : fge (fabs (cn s)) (fabs (cn v))
    · exact add_lt B s c v w h hi hg
    · exact add_ge B s c v w h hi hg
  · exact add_inf B s c v w h hi

theorem answer_any (B s c : Nat) (w : World) (h : Bk.Is w B #[.float .f64 s, .float .f64 c] 61) :
    Calls Try.prog 56 #[.pointer (some ⟨B, 0, none⟩)] w (FRet (fadd (cn s) (cn c)) w) := by
  have c0 : w.cell? ⟨B, 0, none⟩ = some (.float .f64 s) := h.cell 0
  have c1 : w.cell? ⟨B, 1, none⟩ = some (.float .f64 c) := h.cell 1
  go_enter Try.func56, Try.ntmps56
  go_wp2_with fail
  refine wp_region_rel (fun wd => ∃ nd, wd = w.drewN nd) (fun _ _ _ => False) (by kernel_rfl) (by kernel_rfl) (by repeat (first | exact ⟨_, rfl⟩ | refine drew_class _ _ ?_ | refine drewN_class _ _ _ ?_)) ?_
  repeat (first | (refine wpRel_fop _ _ _ _ _ _ _ rfl rfl rfl rfl (drewN_class w) ?_; intro r hr; go_big_quiet_step (fail); refine wpQuiet_nil ?_) | (refine wpRel_quiet rfl ?_; go_big_quiet_step (fail); refine wpQuiet_nil ?_))
  refine wpRel_nil ?_
  rintro w1 ⟨m1, rfl⟩
  go_wp2_with fail
  go_ret
  exact ⟨_, _, rfl, by simp only [fop_add, *], rfl⟩

/-- The total of the first k numbers. -/
def totT (ys : List Nat) : Nat → Nat × Nat
  | 0 => (0, 0)
  | k + 1 => addT (totT ys k) (at0 ys k)
def sumS (ys : List Nat) : Nat := fadd (totT ys ys.length).1 (totT ys ys.length).2

end Go.Proofs.Ytllphokepjekpaa
