/- Absolute values, infinities, and the running total of calc. The running total of calc: add, answer; Sum on both sides. calc.Sum and weirref06.Sum: what they answer. slices.ContainsFunc over a list of floats, asked for infinities; calc.Mean. calc.Mean: what it answers. -/
import Derived.Test.YtllphokepjekpaaSmall
import Derived.Test.YtllphokepjekpaaRelTail
import Derived.Test.YtllphokepjekpaaBlock
import Derived.Test.YtllphokepjekpaaFlStore
namespace Go.Proofs.Ytllphokepjekpaa
open Go.Fl Go.Rel Go.RowKit

/-- The sign bit. -/
def top : Nat := 9223372036854775808

theorem andNot_top (x : Nat) (P : Program) (T : TypeId) (w : World) : (binOp .andNot T (.int .u64 (x : Int)) (.int .u64 9223372036854775808)).run P w = .ok (.int .u64 ((x % top : Nat) : Int)) w := by
  have h : (BitVec.ofInt 64 (x : Int) &&& ~~~(BitVec.ofInt 64 9223372036854775808)).toNat = x % top := by
    have e1 : BitVec.ofInt 64 (x : Int) = BitVec.ofNat 64 x := by simp
    have e2 : ~~~(BitVec.ofInt 64 9223372036854775808) = BitVec.ofNat 64 9223372036854775807 := by decide +kernel
    rw [e1, e2, BitVec.toNat_and, BitVec.toNat_ofNat, BitVec.toNat_ofNat]
    rw [show (9223372036854775807 : Nat) % 2 ^ 64 = 2 ^ 63 - 1 by decide +kernel, Nat.and_two_pow_sub_one_eq_mod]
    unfold top
    omega
  have hlt : x % top < 9223372036854775808 := Nat.mod_lt _ (by decide +kernel)
  have h2 : IntKind.u64.wrap ((x % top : Nat) : Int) = ((x % top : Nat) : Int) := by
    generalize x % top = r at hlt
    exact IntWalk.u64_in _ (by omega)
  show Sem.run P (Op.intBits .andNot .u64 (x : Int) 9223372036854775808) w = _
  have h3 : Op.intBits .andNot .u64 (x : Int) 9223372036854775808 = pure (.int .u64 (IntKind.u64.wrap (BitVec.ofInt 64 (x : Int) &&& ~~~(BitVec.ofInt 64 9223372036854775808)).toNat)) := rfl
  rw [h3, h, h2]
  rfl

theorem wpList_abs {P : Program} {ops : Array Oper} {Q : Exit → Act → World → Prop} {a : Act} {w : World} {rest : List Oper} {dst : Option Tmp} {ty : TypeId} {pos : String} {after : Array Edge} (t t' : TypeId) (y : Operand) (x : Nat)
    (hx : a.eval y = .int .u64 (x : Int))
    (h : wpList P ops Q ({ dst, op := .move (.const (.int .u64 ((x % top : Nat) : Int))), type := ty, pos, after := #[], guard := none } :: rest) a w) :
    wpList P ops Q ({ dst, op := .binOp .andNot t y (.const (.int .u64 9223372036854775808)) t', type := ty, pos, after, guard := none } :: rest) a w := by
  refine wpList_plain rfl fun K hK => ?_
  unfold Oper.wp
  have : (execOp a.eval { dst, op := .binOp .andNot t y (.const (.int .u64 9223372036854775808)) t', type := ty, pos, after, guard := none }).run P w = .ok (.value (.int .u64 ((x % top : Nat) : Int))) w := by
    simp [execOp, hx, eqGuard, BigFrame.eval_const, andNot_top]
  rw [this]
  exact hK _ _ (wpList_laid h)

/-- The absolute value of a class. -/
def fabs (s : Nat) : Nat := if isN s then nanc else s % top

theorem isN_mod (x : Nat) : isN (x % top) = isN x := by
  have hS : Ieee.double.signWeight = top := by decide +kernel
  unfold isN Ieee.Format.read
  dsimp only
  rw [hS, Nat.mod_mod]
  split
  · rfl
  · split
    · rfl
    · split <;> rfl

theorem cn_abs (x : Nat) : cn (x % top) = fabs (cn x) := by
  unfold fabs
  rw [isN_cn]
  cases h : isN x
  · rw [cn_of_notN (by rw [isN_mod, h]), cn_of_notN h]; rfl
  · rw [cn_of_N (by rw [isN_mod, h])]; rfl

set_option maxRecDepth 100000 in
theorem abs_any (x : Nat) (w : World) : Calls Try.prog 33 #[.float .f64 x] w fun e w' => e = .returned (.float .f64 (x % top)) ∧ w = w' := by
  have hb := bits_run x
  have hf := frombits_run ((x : Int) % (top : Int))
  rw [show ((x : Int) % (top : Int)).toNat = x % top by rw [← Int.natCast_emod, Int.toNat_natCast]] at hf
  go_enter Try.func33, Try.ntmps33
  go_wp2_with (first | (refine wpList_abs _ _ _ x rfl ?_) | simp only [hb] | simp only [hf])
  go_ret
  exact ⟨rfl, rfl⟩

/-- Is the class an infinity? -/
def finf (s : Nat) : Bool := ford (fabs s) 9218868437227405311 == some .gt

theorem isinf_any (x : Nat) (w : World) : Calls Try.prog 89 #[.float .f64 x, .int .i64 0] w fun e w' => e = .returned (.bool (finf (cn x))) ∧ w = w' := by
  have ho : (FloatKind.f64.format.order (x % top) 9218868437227405311 == some .gt) = finf (cn x) := by
    unfold finf
    rw [← cn_abs, ford_cn1]
    rfl
  have Ho := Lib.hid ho
  clear ho
  go_enter Try.func89, Try.ntmps89
  go_wp2_with (go_at_call 33; refine (abs_any _ _).mono ?_; rintro e w' ⟨rfl, rfl⟩)
  go_ret
  exact ⟨ret_bool Ho.out, rfl⟩

theorem infinite_any (x : Nat) (w : World) : Calls Try.prog 57 #[.float .f64 x] w fun e w' => e = .returned (.bool (finf (cn x))) ∧ w = w' := by
  go_enter Try.func57, Try.ntmps57
  go_wp2_with (go_at_call 89; refine (isinf_any _ _).mono ?_; rintro e w' ⟨rfl, rfl⟩)
  go_ret
  exact ⟨rfl, rfl⟩

theorem endless_any (x : Nat) (w : World) : Calls Try.prog 59 #[.float .f64 x] w fun e w' => e = .returned (.bool (finf (cn x))) ∧ w = w' := by
  go_enter Try.func59, Try.ntmps59
  go_wp2_with (go_at_call 89; refine (isinf_any _ _).mono ?_; rintro e w' ⟨rfl, rfl⟩)
  go_ret
  exact ⟨rfl, rfl⟩

end Go.Proofs.Ytllphokepjekpaa

namespace Go.Proofs.Ytllphokepjekpaa
open Go.Fl Go.Rel Go.RowKit

def fge (x y : Nat) : Bool := ford x y == some .gt || ford x y == some .eq

/-- One number more: the sum, and what was lost. -/
def addT (st : Nat × Nat) (v : Nat) : Nat × Nat :=
  (fadd st.1 v, if finf (fadd st.1 v) = true then 0 else if fge (fabs st.1) (fabs v) = true then fadd st.2 (fadd (fsub st.1 (fadd st.1 v)) v) else fadd st.2 (fadd (fsub v (fadd st.1 v)) st.1))

/-- A total in memory: its sum and its loss. -/
def TotIs (w : World) (B : Nat) (st : Nat × Nat) : Prop := ∃ s c, Bk.Is w B #[.float .f64 s, .float .f64 c] 61 ∧ cn s = st.1 ∧ cn c = st.2

def AddRet (w : World) (B : Nat) (st : Nat × Nat) (e : Ending) (w' : World) : Prop :=
  e = .returned (.tuple #[]) ∧ ∃ s c n, w' = ((w.setCell ⟨B, 1, none⟩ (.float .f64 c)).setCell ⟨B, 0, none⟩ (.float .f64 s)).drewN n ∧ cn s = st.1 ∧ cn c = st.2

set_option maxHeartbeats 1000000 in
set_option maxRecDepth 100000 in
theorem add_inf (B s c v : Nat) (w : World) (h : Bk.Is w B #[.float .f64 s, .float .f64 c] 61) (hi : finf (fadd (cn s) (cn v)) = true) :
    Calls Try.prog 55 #[.pointer (some ⟨B, 0, none⟩), .float .f64 v] w (AddRet w B (addT (cn s, cn c) (cn v))) := by
  have c0 : w.cell? ⟨B, 0, none⟩ = some (.float .f64 s) := h.cell 0
  have c1 : w.cell? ⟨B, 1, none⟩ = some (.float .f64 c) := h.cell 1
  have f0 := h.free 0
  have f1 := h.free 1
  go_enter Try.func55, Try.ntmps55
  go_wp2_with (first | (refine wpList_fop _ _ _ _ _ _ _ rfl rfl rfl ?_; intro r nq hr; have Hr := Lib.hid hr; clear hr) | (go_at_call 57; refine (infinite_any _ _).mono ?_; rintro e w' ⟨rfl, rfl⟩; rw [Hr.out, fop_add, hi]))
  go_end0
  exact ⟨rfl, _, _, _, rfl, Hr.out, by rw [addT, if_pos hi]; exact cn_zero⟩

set_option maxHeartbeats 1000000 in
set_option maxRecDepth 100000 in
theorem add_ge (B s c v : Nat) (w : World) (h : Bk.Is w B #[.float .f64 s, .float .f64 c] 61) (hi : finf (fadd (cn s) (cn v)) = false) (hg : fge (fabs (cn s)) (fabs (cn v)) = true) :
    Calls Try.prog 55 #[.pointer (some ⟨B, 0, none⟩), .float .f64 v] w (AddRet w B (addT (cn s, cn c) (cn v))) := by
  have c0 : w.cell? ⟨B, 0, none⟩ = some (.float .f64 s) := h.cell 0
  have c1 : w.cell? ⟨B, 1, none⟩ = some (.float .f64 c) := h.cell 1
  have f0 := h.free 0
  have f1 := h.free 1
  have ho : (FloatKind.f64.format.order (s % top) (v % top) == some .gt || FloatKind.f64.format.order (s % top) (v % top) == some .eq) = true := by
    rw [order_cn, cn_abs, cn_abs]; exact hg
  go_enter Try.func55, Try.ntmps55
  go_wp2_with (first | (refine wpList_fop _ _ _ _ _ _ _ rfl rfl rfl ?_; intro r nq hr; have Hr := Lib.hid hr; clear hr) | (go_at_call 57; refine (infinite_any _ _).mono ?_; rintro e w' ⟨rfl, rfl⟩; rw [Hr.out, fop_add, hi]) | (go_at_call 33; refine (abs_any _ _).mono ?_; rintro e w' ⟨rfl, rfl⟩))
  refine wp_region_rel_tail (fun wd => ∃ nd, wd = w.drewN nd) (fun _ _ _ => False) (by kernel_rfl) (by kernel_rfl) rfl rfl (by repeat (first | exact ⟨_, rfl⟩ | refine drew_class _ _ ?_ | refine drewN_class _ _ _ ?_)) ?_
  dsimp only [List.dropLast]
  repeat (first | (refine wpRel_fop _ _ _ _ _ _ _ rfl rfl rfl rfl (drewN_class w) ?_; intro r hr; go_big_quiet_step (fail); refine wpQuiet_nil ?_) | (refine wpRel_quiet rfl ?_; go_big_quiet_step (fail); refine wpQuiet_nil ?_))
  refine wpRel_nil ?_
  rintro w1 ⟨m1, rfl⟩
  go_wp2_with fail
  go_end0
  refine ⟨rfl, _, _, _, rfl, Hr.out, ?_⟩
  rw [addT, if_neg (by rw [hi]; simp), if_pos hg]
  simp only [fop_add, fop_sub, Hr.out, *]

set_option maxHeartbeats 1000000 in
set_option maxRecDepth 100000 in
theorem add_lt (B s c v : Nat) (w : World) (h : Bk.Is w B #[.float .f64 s, .float .f64 c] 61) (hi : finf (fadd (cn s) (cn v)) = false) (hg : fge (fabs (cn s)) (fabs (cn v)) = false) :
    Calls Try.prog 55 #[.pointer (some ⟨B, 0, none⟩), .float .f64 v] w (AddRet w B (addT (cn s, cn c) (cn v))) := by
  have c0 : w.cell? ⟨B, 0, none⟩ = some (.float .f64 s) := h.cell 0
  have c1 : w.cell? ⟨B, 1, none⟩ = some (.float .f64 c) := h.cell 1
  have f0 := h.free 0
  have f1 := h.free 1
  have ho : (FloatKind.f64.format.order (s % top) (v % top) == some .gt || FloatKind.f64.format.order (s % top) (v % top) == some .eq) = false := by
    rw [order_cn, cn_abs, cn_abs]; exact hg
  go_enter Try.func55, Try.ntmps55
  go_wp2_with (first | (refine wpList_fop _ _ _ _ _ _ _ rfl rfl rfl ?_; intro r nq hr; have Hr := Lib.hid hr; clear hr) | (go_at_call 57; refine (infinite_any _ _).mono ?_; rintro e w' ⟨rfl, rfl⟩; rw [Hr.out, fop_add, hi]) | (go_at_call 33; refine (abs_any _ _).mono ?_; rintro e w' ⟨rfl, rfl⟩))
  refine wp_region_rel_tail (fun wd => ∃ nd, wd = w.drewN nd) (fun _ _ _ => False) (by kernel_rfl) (by kernel_rfl) rfl rfl (by repeat (first | exact ⟨_, rfl⟩ | refine drew_class _ _ ?_ | refine drewN_class _ _ _ ?_)) ?_
  dsimp only [List.dropLast]
  repeat (first | (refine wpRel_fop _ _ _ _ _ _ _ rfl rfl rfl rfl (drewN_class w) ?_; intro r hr; go_big_quiet_step (fail); refine wpQuiet_nil ?_) | (refine wpRel_quiet rfl ?_; go_big_quiet_step (fail); refine wpQuiet_nil ?_))
  refine wpRel_nil ?_
  rintro w1 ⟨m1, rfl⟩
  go_wp2_with fail
  go_end0
  refine ⟨rfl, _, _, _, rfl, Hr.out, ?_⟩
  rw [addT, if_neg (by rw [hi]; simp), if_neg (by rw [hg]; simp)]
  simp only [fop_add, fop_sub, Hr.out, *]

theorem add_any (B s c v : Nat) (w : World) (h : Bk.Is w B #[.float .f64 s, .float .f64 c] 61) :
    Calls Try.prog 55 #[.pointer (some ⟨B, 0, none⟩), .float .f64 v] w (AddRet w B (addT (cn s, cn c) (cn v))) := by
  cases hi : finf (fadd (cn s) (cn v))
  · cases hg : fge (fabs (cn s)) (fabs (cn v))
    · exact add_lt B s c v w h hi hg
    · exact add_ge B s c v w h hi hg
  · exact add_inf B s c v w h hi

theorem answer_any (B s c : Nat) (w : World) (h : Bk.Is w B #[.float .f64 s, .float .f64 c] 61) :
    Calls Try.prog 56 #[.pointer (some ⟨B, 0, none⟩)] w (FRet (fadd (cn s) (cn c)) w) := by
  have c0 : w.cell? ⟨B, 0, none⟩ = some (.float .f64 s) := h.cell 0
  have c1 : w.cell? ⟨B, 1, none⟩ = some (.float .f64 c) := h.cell 1
  go_enter Try.func56, Try.ntmps56
  go_wp2_with fail
  refine wp_region_rel (fun wd => ∃ nd, wd = w.drewN nd) (fun _ _ _ => False) (by kernel_rfl) (by kernel_rfl) (by repeat (first | exact ⟨_, rfl⟩ | refine drew_class _ _ ?_ | refine drewN_class _ _ _ ?_)) ?_
  repeat (first | (refine wpRel_fop _ _ _ _ _ _ _ rfl rfl rfl rfl (drewN_class w) ?_; intro r hr; go_big_quiet_step (fail); refine wpQuiet_nil ?_) | (refine wpRel_quiet rfl ?_; go_big_quiet_step (fail); refine wpQuiet_nil ?_))
  refine wpRel_nil ?_
  rintro w1 ⟨m1, rfl⟩
  go_wp2_with fail
  go_ret
  exact ⟨_, _, rfl, by simp only [fop_add, *], rfl⟩

/-- The total of the first k numbers. -/
def totT (ys : List Nat) : Nat → Nat × Nat
  | 0 => (0, 0)
  | k + 1 => addT (totT ys k) (at0 ys k)
def sumS (ys : List Nat) : Nat := fadd (totT ys ys.length).1 (totT ys ys.length).2

end Go.Proofs.Ytllphokepjekpaa

namespace Go.Proofs.Ytllphokepjekpaa
open Go.Fl Go.Rel Go.RowKit

/-- A float of class s; what was there stays. -/
def FB (s : Nat) (w : World) (e : Ending) (w' : World) : Prop := ∃ r, e = .returned (.float .f64 r) ∧ cn r = s ∧ Below w.heap.size w w'

theorem FRet.fb {s : Nat} {w : World} {e : Ending} {w' : World} (h : FRet s w e w') : FB s w e w' := by
  obtain ⟨r, n, he, hr, rfl⟩ := h
  exact ⟨r, he, hr, (Below.refl _ _).drewN' _⟩

def SumRel (ys : List Nat) (n : Nat) (w : World) (i : Value) (wr : World) : Prop :=
  ∃ k s c, k ≤ n ∧ i = .int .i64 (k : Int) ∧ Bk.Is wr w.heap.size #[.float .f64 s, .float .f64 c] 61 ∧ cn s = (totT ys k).1 ∧ cn c = (totT ys k).2 ∧ Below w.heap.size w wr

set_option maxHeartbeats 1000000 in
theorem sum_any (a : Option Addr) (n cap : Nat) (xs : List Nat) (w : World) (hr : Row w a n xs) :
    Calls Try.prog 18 #[.slice a n cap] w (FB (sumS (xs.map cn)) w) := by
  obtain ⟨hl, hm, hc⟩ := hr
  go_enter Try.func18, Try.ntmps18
  go_wp2_with fail
  go_loopw [8] (SumRel (xs.map cn) n w) (fun i _ => n - (intOf i).toNat)
  case atStart => exact ⟨0, 0, 0, by omega, rfl, Bk.Is.made _ _ _, cn_zero, cn_zero, (Below.refl _ _).alloc (Nat.le_refl _) _⟩
  case round =>
    obtain ⟨k, s, c, hk, rfl, hb, hs, hcc, bw⟩ := hrel
    have Hs := Lib.hid hs
    have Hc := Lib.hid hcc
    clear hs hcc
    by_cases hlt : k < n
    · obtain ⟨b, off, rfl, hcell⟩ := hc (by omega)
      have c0 := hcell k hlt
      have hblt : b < w.heap.size := World.block_lt_of_cell? w _ c0
      have ck : wr.cell? ⟨b, off + k, none⟩ = some (.float .f64 (at0 xs k)) := by rw [bw.cell (p := ⟨b, off + k, none⟩) hblt]; exact c0
      clear c0
      have Hat := Lib.hid (at0_map cn xs (i := k) (by omega))
      go_wp2_with fail
      refine (add_any _ _ _ _ _ hb).mono ?_
      rintro e w1 ⟨rfl, s1, c1, m, rfl, h1, h2⟩
      have H1 := Lib.hid h1
      have H2 := Lib.hid h2
      clear h1 h2
      go_wp2_with fail
      go_roundw
      case rel =>
        refine ⟨k + 1, s1, c1, by omega, by go_num, ((hb.set 1 _).set 0 _).drewN _, ?_, ?_, ((bw.setCell (Nat.le_refl _) _).setCell (Nat.le_refl _) _).drewN' _⟩
        · rw [H1.out, totT, Hat.out, show totT (xs.map cn) k = (cn s, cn c) from Prod.ext Hs.out.symm Hc.out.symm]
        · rw [H2.out, totT, Hat.out, show totT (xs.map cn) k = (cn s, cn c) from Prod.ext Hs.out.symm Hc.out.symm]
      case measure => simp [intOf]; omega
    · have Hk : Hid (k = (xs.map cn).length) := by show _ = _; simp; omega
      go_wp2_with fail
      refine (answer_any _ _ _ _ hb).mono ?_
      rintro e w1 ⟨r, m, rfl, h1, rfl⟩
      have H1 := Lib.hid h1
      clear h1
      go_wp2_with fail
      go_ret
      exact ⟨r, rfl, by rw [H1.out, Hs.out, Hc.out, sumS, Hk.out], bw.drewN' _⟩

def RSumRel (ys : List Nat) (n : Nat) (w : World) (vs vc i : Value) (wr : World) : Prop :=
  ∃ k s c m, k ≤ n ∧ vs = .float .f64 s ∧ vc = .float .f64 c ∧ i = .int .i64 (k : Int) ∧ wr = w.drewN m ∧ cn s = (totT ys k).1 ∧ cn c = (totT ys k).2

set_option maxHeartbeats 1000000 in
set_option maxRecDepth 100000 in
theorem refsum_any (a : Option Addr) (n cap : Nat) (xs : List Nat) (w : World) (hr : Row w a n xs) :
    Calls Try.prog 20 #[.slice a n cap] w (FRet (sumS (xs.map cn)) w) := by
  obtain ⟨hl, hm, hc⟩ := hr
  go_enter Try.func20, Try.ntmps20
  go_wp2_with fail
  go_loopw [3, 4, 5] (RSumRel (xs.map cn) n w) (fun _ _ i _ => n - (intOf i).toNat)
  case atStart => exact ⟨0, 0, 0, 0, by omega, rfl, rfl, rfl, rfl, cn_zero, cn_zero⟩
  case round =>
    obtain ⟨k, s, c, m, hk, rfl, rfl, rfl, rfl, hs, hcc⟩ := hrel
    have Hs := Lib.hid hs
    have Hc := Lib.hid hcc
    clear hs hcc
    by_cases hlt : k < n
    · obtain ⟨b, off, rfl, hcell⟩ := hc (by omega)
      have ck := hcell k hlt
      clear hcell hc
      have Hat := Lib.hid (at0_map cn xs (i := k) (by omega))
      generalize hv : at0 xs k = v at ck Hat
      have Hv := Lib.hid hv
      clear hv
      have ho : (FloatKind.f64.format.order (s % top) (v % top) == some .gt || FloatKind.f64.format.order (s % top) (v % top) == some .eq) = fge (fabs (cn s)) (fabs (cn v)) := by
        rw [order_cn, cn_abs, cn_abs]; rfl
      have hT : totT (xs.map cn) (k + 1) = addT (cn s, cn c) (cn v) := by
        rw [totT, Hat.out, show totT (xs.map cn) k = (cn s, cn c) from Prod.ext Hs.out.symm Hc.out.symm]
      have HT := Lib.hid hT
      clear hT
      cases hi : finf (fadd (cn s) (cn v)) <;> cases hg : fge (fabs (cn s)) (fabs (cn v))
      all_goals
        rw [hg] at ho
        have Hi := Lib.hid hi
        have Hg := Lib.hid hg
        clear hi hg
        go_wp2_with (first | (refine wpList_fop _ _ _ _ _ _ _ rfl rfl rfl ?_; intro r nq hr) | (go_at_call 59; refine (endless_any _ _).mono ?_; rintro e w' ⟨rfl, rfl⟩; rw [hr, fop_add, Hi.out]) | (go_at_call 33; refine (abs_any _ _).mono ?_; rintro e w' ⟨rfl, rfl⟩))
        go_roundw
        case rel =>
          refine ⟨k + 1, _, _, _, by omega, rfl, rfl, by go_num, rfl, ?_, ?_⟩
          · rw [HT.out, addT]; simp only [fop_add, *]
          · rw [HT.out, addT]; simp [fop_add, fop_sub, Hi.out, Hg.out, cn_zero, *]
        case measure => simp [intOf]; omega
    · have Hk : Hid (k = (xs.map cn).length) := by show _ = _; simp; omega
      go_wp2_with (first | (refine wpList_fop _ _ _ _ _ _ _ rfl rfl rfl ?_; intro r nq hr))
      go_ret
      exact ⟨_, _, rfl, by rw [sumS, ← Hk.out, ← Hs.out, ← Hc.out]; simp only [fop_add, *], World.drewN_drewN ..⟩

end Go.Proofs.Ytllphokepjekpaa

namespace Go.Proofs.Ytllphokepjekpaa
open Go.Fl Go.Rel Go.RowKit

def anyInf (ys : List Nat) : Bool := ys.any finf

theorem at0_mem (ys : List Nat) (k : Nat) (h : k < ys.length) : at0 ys k ∈ ys := by
  simp [at0, List.getD, h]

theorem anyInf_true {ys : List Nat} {k : Nat} (h : k < ys.length) (hk : finf (at0 ys k) = true) : anyInf ys = true :=
  List.any_eq_true.2 ⟨_, at0_mem ys k h, hk⟩

theorem anyInf_false {ys : List Nat} (h : ∀ j, j < ys.length → finf (at0 ys j) = false) : anyInf ys = false := by
  unfold anyInf
  rw [List.any_eq_false]
  intro x hx
  obtain ⟨j, hj, rfl⟩ := List.mem_iff_getElem.1 hx
  have := h j hj
  simp [at0, List.getD, hj] at this
  simp [this]

def IdxRet (b : Bool) (w : World) (e : Ending) (w' : World) : Prop := ∃ r : Int, e = .returned (.int .i64 r) ∧ decide (0 ≤ r) = b ∧ -1 ≤ r ∧ w = w'

set_option maxHeartbeats 1000000 in
theorem index_inf (a : Option Addr) (n cap : Nat) (xs : List Nat) (w : World) (hr : Row w a n xs) :
    Calls Try.prog 108 #[.slice a n cap, .func (.func 57) #[] #[]] w (IdxRet (anyInf (xs.map cn)) w) := by
  obtain ⟨hl, hm, hc⟩ := hr
  go_enter Try.func108, Try.ntmps108
  go_wp2_with fail
  go_loop [8] (fun i => ∃ k : Nat, k ≤ n ∧ i = .int .i64 (k : Int) ∧ Hid (∀ j, j < k → finf (at0 (xs.map cn) j) = false)) (fun i => n - (intOf i).toNat)
  case atStart => exact ⟨0, by omega, rfl, fun j hj => by omega⟩
  case round =>
    obtain ⟨k, hk, rfl, H⟩ := hrel
    by_cases hlt : k < n
    · obtain ⟨b, off, rfl, hcell⟩ := hc (by omega)
      have ck := hcell k hlt
      clear hcell hc
      have Hat := Lib.hid (at0_map cn xs (i := k) (by omega))
      cases hi : finf (cn (at0 xs k))
      · have Hi := Lib.hid hi
        clear hi
        go_wp2_with (go_at_call 57; refine (infinite_any _ _).mono ?_; rintro e w' ⟨rfl, rfl⟩; rw [Hi.out])
        go_round
        case rel =>
          refine ⟨k + 1, by omega, by go_num, fun j hj => ?_⟩
          by_cases hjk : j = k
          · rw [hjk, Hat.out]; exact Hi.out
          · exact H.out j (by omega)
        case measure => simp [intOf]; omega
      · have Hi := Lib.hid hi
        clear hi
        have hany : anyInf (xs.map cn) = true := anyInf_true (k := k) (by simp; omega) (by rw [Hat.out]; exact Hi.out)
        have Hany := Lib.hid hany
        clear hany
        go_wp2_with (go_at_call 57; refine (infinite_any _ _).mono ?_; rintro e w' ⟨rfl, rfl⟩; rw [Hi.out])
        go_ret
        exact ⟨k, rfl, by rw [Hany.out]; simp, by omega, rfl⟩
    · have hk' : k = n := by omega
      subst hk'
      have hany : anyInf (xs.map cn) = false := anyInf_false (fun j hj => H.out j (by simp at hj; omega))
      have Hany := Lib.hid hany
      clear hany
      go_wp2_with fail
      go_ret
      exact ⟨-1, rfl, by rw [Hany.out]; decide, by omega, rfl⟩

theorem contains_inf (a : Option Addr) (n cap : Nat) (xs : List Nat) (w : World) (hr : Row w a n xs) :
    Calls Try.prog 58 #[.slice a n cap, .func (.func 57) #[] #[]] w fun e w' => e = .returned (.bool (anyInf (xs.map cn))) ∧ w = w' := by
  go_enter Try.func58, Try.ntmps58
  go_wp2_with fail
  refine (index_inf a n cap xs _ hr).mono ?_
  rintro e w1 ⟨r, rfl, hb, hr1, rfl⟩
  have Hb := Lib.hid hb
  clear hb
  go_wp2_with fail
  go_ret
  exact ⟨ret_bool (by rw [← Hb.out]), rfl⟩

end Go.Proofs.Ytllphokepjekpaa

namespace Go.Proofs.Ytllphokepjekpaa
open Go.Fl Go.Rel Go.RowKit

/-- A whole number as a float. -/
def nfl (n : Nat) : Nat := floatOfInt .f64 (n : Int)
theorem cn_nfl (n : Nat) : cn (nfl n) = nfl n := cn_of_notN (show isN (Ieee.double.write (.number ((n : Int) < 0) ((n : Int)).natAbs 0)) = false from write_not_nan _ rfl)

def meanS (ys : List Nat) : Nat :=
  if ys.length = 0 then nanc else
  if finf (sumS ys) = true ∧ anyInf ys = false then sumS (ys.map fun y => fdiv y (nfl ys.length)) else fdiv (sumS ys) (nfl ys.length)

def MeanRel (ys : List Nat) (n B : Nat) (w : World) (i : Value) (wr : World) : Prop :=
  ∃ k s c, k ≤ n ∧ i = .int .i64 (k : Int) ∧ Bk.Is wr B #[.float .f64 s, .float .f64 c] 61 ∧ cn s = (totT ys k).1 ∧ cn c = (totT ys k).2 ∧ Below w.heap.size w wr

theorem fdiv_cn1 (x y : Nat) : fdiv (cn x) (cn y) = fdiv x y := fop_cn .quo x y

set_option maxHeartbeats 1000000 in
set_option maxRecDepth 100000 in
theorem mean_any (a : Option Addr) (n cap : Nat) (xs : List Nat) (w : World) (hr : Row w a n xs) :
    Calls Try.prog 19 #[.slice a n cap] w (FB (meanS (xs.map cn)) w) := by
  have hl := hr.1
  by_cases h0 : n = 0
  · subst h0
    have hs : meanS (xs.map cn) = nanc := by unfold meanS; rw [if_pos (by simp [hl])]
    rw [hs]
    go_enter Try.func19, Try.ntmps19
    go_wp2_with (go_at_call 52; refine (nan_any _).mono ?_; rintro e w' ⟨rfl, rfl⟩)
    go_ret
    exact ⟨nanc, rfl, cn_nanc, Below.refl _ _⟩
  · have hn : ((n : Int) == 0) = false := by simp; omega
    have hlen : (xs.map cn).length = n := by simp [hl]
    have hm := hr.2.1
    have Hlen := Lib.hid hlen
    have Hl := Lib.hid hl
    clear hlen hl h0
    by_cases hb : finf (sumS (xs.map cn)) = true ∧ anyInf (xs.map cn) = false
    · have hs : meanS (xs.map cn) = sumS ((xs.map cn).map fun y => fdiv y (nfl n)) := by
        unfold meanS
        rw [if_neg (by rw [Hlen.out]; intro h; rw [h] at hn; simp at hn), if_pos hb, Hlen.out]
      rw [hs]
      obtain ⟨hb1, hb2⟩ := hb
      have Hb1 := Lib.hid hb1
      have Hb2 := Lib.hid hb2
      clear hb1 hb2 hs
      go_enter Try.func19, Try.ntmps19
      go_wp2_with fail
      refine (sum_any _ _ _ xs _ hr).mono ?_
      rintro e w1 ⟨s0, rfl, hs0, b1⟩
      have Hs0 := Lib.hid hs0
      clear hs0
      have hr1 := hr.below b1
      go_wp2_with (first | (go_at_call 57; refine (infinite_any _ _).mono ?_; rintro e w' ⟨rfl, rfl⟩; rw [Hs0.out, Hb1.out]) | (go_at_call 58; refine (contains_inf _ _ _ xs _ hr1).mono ?_; rintro e w' ⟨rfl, rfl⟩; rw [Hb2.out]))
      obtain ⟨_, _, hc⟩ := hr
      go_loopw [29] (MeanRel ((xs.map cn).map fun y => fdiv y (nfl n)) n w1.heap.size w) (fun i _ => n - (intOf i).toNat)
      case atStart => exact ⟨0, 0, 0, by omega, rfl, Bk.Is.made _ _ _, cn_zero, cn_zero, b1.alloc b1.size _⟩
      case round =>
        obtain ⟨k, s, c, hk, rfl, hbk, hs, hcc, bw⟩ := hrel
        have Hs := Lib.hid hs
        have Hc := Lib.hid hcc
        clear hs hcc
        by_cases hlt : k < n
        · obtain ⟨b, off, rfl, hcell⟩ := hc (by omega)
          have c0 := hcell k hlt
          have hblt : b < w.heap.size := World.block_lt_of_cell? w _ c0
          have ck : wr.cell? ⟨b, off + k, none⟩ = some (.float .f64 (at0 xs k)) := by rw [bw.cell (p := ⟨b, off + k, none⟩) hblt]; exact c0
          clear c0 hcell hc hr1
          have hat : at0 ((xs.map cn).map fun y => fdiv y (nfl n)) k = fdiv (cn (at0 xs k)) (nfl n) := by
            rw [at0_map _ _ (by rw [Hlen.out]; exact hlt), at0_map _ _ (by rw [Hl.out]; exact hlt)]
          have Hat := Lib.hid hat
          clear hat
          go_wp2_with (refine wpList_fop _ _ _ _ _ _ _ rfl rfl rfl ?_; intro r nq hr9)
          have Hr := Lib.hid hr9
          clear hr9
          refine (add_any _ _ _ _ _ (hbk.drewN _)).mono ?_
          rintro e w2 ⟨rfl, s1, c1, m, rfl, h1, h2⟩
          have H1 := Lib.hid h1
          have H2 := Lib.hid h2
          clear h1 h2
          go_wp2_with fail
          go_roundw
          case rel =>
            have hT : totT ((xs.map cn).map fun y => fdiv y (nfl n)) (k + 1) = addT (cn s, cn c) (cn r) := by
              rw [totT, Hat.out, Hr.out, show totT ((xs.map cn).map fun y => fdiv y (nfl n)) k = (cn s, cn c) from Prod.ext Hs.out.symm Hc.out.symm, fop_quo, ← cn_nfl n]
              rfl
            have bw' := (((bw.drewN' nq).setCell (p := ⟨w1.heap.size, 1, none⟩) b1.size (.float .f64 c1)).setCell (p := ⟨w1.heap.size, 0, none⟩) b1.size (.float .f64 s1)).drewN' m
            have hb' := (((hbk.drewN nq).set 1 (.float .f64 c1)).set 0 (.float .f64 s1)).drewN m
            exact ⟨k + 1, s1, c1, by omega, by go_num, hb', by rw [H1.out, hT], by rw [H2.out, hT], bw'⟩
          case measure => simp [intOf]; omega
        · have Hk : Hid (k = ((xs.map cn).map fun y => fdiv y (nfl n)).length) := by show _ = _; rw [List.length_map, Hlen.out]; omega
          go_wp2_with fail
          refine (answer_any _ _ _ _ hbk).mono ?_
          rintro e w2 ⟨r, m, rfl, h1, rfl⟩
          have H1 := Lib.hid h1
          clear h1
          go_wp2_with fail
          go_ret
          exact ⟨r, rfl, by rw [H1.out, Hs.out, Hc.out, sumS, Hk.out], bw.drewN' _⟩
    · have hs : meanS (xs.map cn) = fdiv (sumS (xs.map cn)) (nfl n) := by
        unfold meanS
        rw [if_neg (by rw [Hlen.out]; intro h; rw [h] at hn; simp at hn), if_neg hb, Hlen.out]
      rw [hs]
      clear hs
      cases hb1 : finf (sumS (xs.map cn))
      all_goals
        have Hb1 := Lib.hid hb1
        have hb2 : finf (sumS (xs.map cn)) = true → anyInf (xs.map cn) = true := fun h => by
          cases h' : anyInf (xs.map cn)
          · exact absurd ⟨h, h'⟩ hb
          · rfl
        have Hb2 := Lib.hid hb2
        clear hb1 hb2 hb
        go_enter Try.func19, Try.ntmps19
        go_wp2_with fail
        refine (sum_any _ _ _ xs _ hr).mono ?_
        rintro e w1 ⟨s0, rfl, hs0, b1⟩
        have Hs0 := Lib.hid hs0
        clear hs0
        have hr1 := hr.below b1
        go_wp2_with (first | (refine wpList_fop _ _ _ _ _ _ _ rfl rfl rfl ?_; intro r nq hr9) | (go_at_call 57; refine (infinite_any _ _).mono ?_; rintro e w' ⟨rfl, rfl⟩; rw [Hs0.out, Hb1.out]) | (go_at_call 58; refine (contains_inf _ _ _ xs _ hr1).mono ?_; rintro e w' ⟨rfl, rfl⟩; rw [Hb2.out Hb1.out]))
        go_ret
        exact ⟨_, rfl, by rw [hr9, Hs0.out, fop_quo, ← cn_nfl n]; rfl, b1.drewN' _⟩

end Go.Proofs.Ytllphokepjekpaa
