/- calc.Sum and weirref06.Sum: what they answer. -/
import Derived.Test.YtllphokepjekpaaTotalA
namespace Go.Proofs.Ytllphokepjekpaa
open Go.Fl Go.Rel Go.RowKit

/-- A float of class s; what was there stays. -/
def FB (s : Nat) (w : World) (e : Ending) (w' : World) : Prop := ∃ r, e = .returned (.float .f64 r) ∧ cn r = s ∧ Below w.heap.size w w'

theorem FRet.fb {s : Nat} {w : World} {e : Ending} {w' : World} (h : FRet s w e w') : FB s w e w' := by
  obtain ⟨r, n, he, hr, rfl⟩ := h
  exact ⟨r, he, hr, (Below.refl _ _).drewN' _⟩

def SumRel (ys : List Nat) (n : Nat) (w : World) (i : Value) (wr : World) : Prop :=
  ∃ k s c, k ≤ n ∧ i = .int .i64 (k : Int) ∧ Bk.Is wr w.heap.size #[.float .f64 s, .float .f64 c] 61 ∧ cn s = (totT ys k).1 ∧ cn c = (totT ys k).2 ∧ Below w.heap.size w wr

set_option maxHeartbeats 1000000 in
theorem sum_any (a : Option Addr) (n cap : Nat) (xs : List Nat) (w : World) (hr : Row w a n xs) :
    Calls Try.prog 18 #[.slice a n cap] w (FB (sumS (xs.map cn)) w) := by
  obtain ⟨hl, hm, hc⟩ := hr
  go_enter Try.func18, Try.ntmps18
  go_wp2_with fail
  go_loopw [8] (SumRel (xs.map cn) n w) (fun i _ => n - (intOf i).toNat)
  case atStart => exact ⟨0, 0, 0, by omega, rfl, Bk.Is.made _ _ _, cn_zero, cn_zero, (Below.refl _ _).alloc (Nat.le_refl _) _⟩
  case round =>
    obtain ⟨k, s, c, hk, rfl, hb, hs, hcc, bw⟩ := hrel
    have Hs := Lib.hid hs
    have Hc := Lib.hid hcc
    clear hs hcc
    by_cases hlt : k < n
    · obtain ⟨b, off, rfl, hcell⟩ := hc (by omega)
      have c0 := hcell k hlt
      have hblt : b < w.heap.size := World.block_lt_of_cell? w _ c0
      have ck : wr.cell? ⟨b, off + k, none⟩ = some (.float .f64 (at0 xs k)) := by rw [bw.cell (p := ⟨b, off + k, none⟩) hblt]; exact c0
      clear c0
      have Hat := Lib.hid (at0_map cn xs (i := k) (by omega))
      go_wp2_with fail
      refine (add_any _ _ _ _ _ hb).mono ?_
      rintro e w1 ⟨rfl, s1, c1, m, rfl, h1, h2⟩
      have H1 := Lib.hid h1
      have H2 := Lib.hid h2
      clear h1 h2
      go_wp2_with fail
      go_roundw
      case rel =>
        refine ⟨k + 1, s1, c1, by omega, by go_num, ((hb.set 1 _).set 0 _).drewN _, ?_, ?_, ((bw.setCell (Nat.le_refl _) _).setCell (Nat.le_refl _) _).drewN' _⟩
        · rw [H1.out, totT, Hat.out, show totT (xs.map cn) k = (cn s, cn c) from Prod.ext Hs.out.symm Hc.out.symm]
        · rw [H2.out, totT, Hat.out, show totT (xs.map cn) k = (cn s, cn c) from Prod.ext Hs.out.symm Hc.out.symm]
      case measure => simp [intOf]; omega
    · have Hk : Hid (k = (xs.map cn).length) := by show _ = _; simp; omega
      go_wp2_with fail
      refine (answer_any _ _ _ _ hb).mono ?_
      rintro e w1 ⟨r, m, rfl, h1, rfl⟩
      have H1 := Lib.hid h1
      clear h1
      go_wp2_with fail
      go_ret
      exact ⟨r, rfl, by rw [H1.out, Hs.out, Hc.out, sumS, Hk.out], bw.drewN' _⟩

def RSumRel (ys : List Nat) (n : Nat) (w : World) (vs vc i : Value) (wr : World) : Prop :=
  ∃ k s c m, k ≤ n ∧ vs = .float .f64 s ∧ vc = .float .f64 c ∧ i = .int .i64 (k : Int) ∧ wr = w.drewN m ∧ cn s = (totT ys k).1 ∧ cn c = (totT ys k).2

set_option maxHeartbeats 1000000 in
set_option maxRecDepth 100000 in
theorem refsum_any (a : Option Addr) (n cap : Nat) (xs : List Nat) (w : World) (hr : Row w a n xs) :
    Calls Try.prog 20 #[.slice a n cap] w (FRet (sumS (xs.map cn)) w) := by
  obtain ⟨hl, hm, hc⟩ := hr
  go_enter Try.func20, Try.ntmps20
  go_wp2_with fail
  go_loopw [3, 4, 5] (RSumRel (xs.map cn) n w) (fun _ _ i _ => n - (intOf i).toNat)
  case atStart => exact ⟨0, 0, 0, 0, by omega, rfl, rfl, rfl, rfl, cn_zero, cn_zero⟩
  case round =>
    obtain ⟨k, s, c, m, hk, rfl, rfl, rfl, rfl, hs, hcc⟩ := hrel
    have Hs := Lib.hid hs
    have Hc := Lib.hid hcc
    clear hs hcc
    by_cases hlt : k < n
    · obtain ⟨b, off, rfl, hcell⟩ := hc (by omega)
      have ck := hcell k hlt
      clear hcell hc
      have Hat := Lib.hid (at0_map cn xs (i := k) (by omega))
      generalize hv : at0 xs k = v at ck Hat
      have Hv := Lib.hid hv
      clear hv
      have ho : (FloatKind.f64.format.order (s % top) (v % top) == some .gt || FloatKind.f64.format.order (s % top) (v % top) == some .eq) = fge (fabs (cn s)) (fabs (cn v)) := by
        rw [order_cn, cn_abs, cn_abs]; rfl
      have hT : totT (xs.map cn) (k + 1) = addT (cn s, cn c) (cn v) := by
        rw [totT, Hat.out, show totT (xs.map cn) k = (cn s, cn c) from Prod.ext Hs.out.symm Hc.out.symm]
      have HT := Lib.hid hT
      clear hT
      cases hi : finf (fadd (cn s) (cn v)) <;> cases hg : fge (fabs (cn s)) (fabs (cn v))
      all_goals
        rw [hg] at ho
        have Hi := Lib.hid hi
        have Hg := Lib.hid hg
        clear hi hg
        go_wp2_with (first | (refine wpList_fop _ _ _ _ _ _ _ rfl rfl rfl ?_; intro r nq hr) | (go_at_call 59; refine (endless_any _ _).mono ?_; rintro e w' ⟨rfl, rfl⟩; rw [hr, fop_add, Hi.out]) | (go_at_call 33; refine (abs_any _ _).mono ?_; rintro e w' ⟨rfl, rfl⟩))
        go_roundw
        case rel =>
          refine ⟨k + 1, _, _, _, by omega, rfl, rfl, by go_num, rfl, ?_, ?_⟩
          · rw [HT.out, addT]; simp only [fop_add, *]
          · rw [HT.out, addT]; simp [fop_add, fop_sub, Hi.out, Hg.out, cn_zero, *]
        case measure => simp [intOf]; omega
    · have Hk : Hid (k = (xs.map cn).length) := by show _ = _; simp; omega
      go_wp2_with (first | (refine wpList_fop _ _ _ _ _ _ _ rfl rfl rfl ?_; intro r nq hr))
      go_ret
      exact ⟨_, _, rfl, by rw [sumS, ← Hk.out, ← Hs.out, ← Hc.out]; simp only [fop_add, *], World.drewN_drewN ..⟩

end Go.Proofs.Ytllphokepjekpaa
