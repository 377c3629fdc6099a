/- calc.Line: what it answers. -/
import Derived.Test.YtllphokepjekpaaLineS
namespace Go.Proofs.Ytllphokepjekpaa
open Go.Fl Go.Rel Go.RowKit

def LineRel (ts vs : List Nat) (n N : Nat) (w : World) (i : Value) (wr : World) : Prop :=
  ∃ k, k ≤ n ∧ i = .int .i64 (k : Int) ∧ TotIs wr N (totT ts k) ∧ TotIs wr (N + 1) (totT vs k) ∧ TotIs wr (N + 2) (totT (muls ts vs) k) ∧ TotIs wr (N + 3) (totT (muls ts ts) k) ∧ Below w.heap.size w wr ∧ N + 4 ≤ wr.heap.size

set_option maxHeartbeats 1000000 in
set_option maxRecDepth 100000 in
theorem line_none (cap : Nat) (a : Option Addr) (z : Int) (w : World) : Calls Try.prog 26 #[.slice a 0 cap, .int .i64 z] w (FB2 (nanc, nanc) w) := by
  go_enter Try.func26, Try.ntmps26
  go_wp2_with (go_at_call 52; refine (nan_any _).mono ?_; rintro e w' ⟨rfl, rfl⟩)
  go_ret2
  exact ⟨nanc, nanc, rfl, cn_nanc, cn_nanc, Below.refl _ _⟩

set_option maxHeartbeats 1000000 in
set_option maxRecDepth 100000 in
theorem line_level (a : Option Addr) (n cap : Nat) (ss : List Smp) (z : Int) (w : World) (hr : SRow w a n ss) (h0 : 0 < n) (hlv : levelS (vcs ss) = true) :
    Calls Try.prog 26 #[.slice a n cap, .int .i64 z] w (FB2 (if finf (at0 (vcs ss) 0) = true then (nanc, nanc) else (0, at0 (vcs ss) 0)) w) := by
  have hl := hr.1
  obtain ⟨b, off, rfl, hcell⟩ := hr.2.2.2 h0
  have c1 : w.cell? ⟨b, off + 1, none⟩ = some (.float .f64 (vS ss 0)) := by simpa using (hcell 0 h0).2.1
  have hat := at0_vcs ss (i := 0) (by omega)
  rw [hat]
  have hn0 : ((n : Int) == 0) = false := by simp; omega
  have hmf : ∀ (fn : Fn) (first cap : Array Value) (w : World), (Instr.makeFunc fn first cap).run Try.prog w = .ok (.func fn first cap) w := fun _ _ _ _ => rfl
  have hblt : b < w.heap.size := World.block_lt_of_cell? w _ c1
  have hor : n = 1 ∨ anyNe (vcs ss) (cn (vS ss 0)) = false := by
    simp only [levelS, Bool.or_eq_true, beq_iff_eq, Bool.not_eq_true', length_vcs, hl, hat] at hlv
    exact hlv
  clear hlv hat
  have Hl := Lib.hid hl
  clear hl hcell
  generalize hv : vS ss 0 = v at c1 hor ⊢
  have Hv := Lib.hid hv
  clear hv
  by_cases h1 : n = 1
  · have hn1 : ((n : Int) == 1) = true := by simp; omega
    clear hor
    cases hi : finf (cn v)
    all_goals
      have Hi := Lib.hid hi
      clear hi
      go_enter Try.func26, Try.ntmps26
      go_wp2_with (first | (go_at_call 57; refine (infinite_any _ _).mono ?_; rintro e w' ⟨rfl, rfl⟩; rw [Hi.out]) | (go_at_call 52; refine (nan_any _).mono ?_; rintro e w' ⟨rfl, rfl⟩))
      all_goals try go_region
      all_goals try go_wp2_with fail
      go_ret2
    · exact ⟨_, _, rfl, cn_zero, rfl, ((Below.refl _ _).alloc (Nat.le_refl _) _).drewN' 1⟩
    · exact ⟨_, _, rfl, cn_nanc, cn_nanc, (Below.refl _ _).alloc (Nat.le_refl _) _⟩
  · have hn1 : ((n : Int) == 1) = false := by simp; omega
    have hany := hor.resolve_left h1
    clear hor h1
    have Hany := Lib.hid hany
    clear hany
    have hbw : Below w.heap.size w (w.alloc (.cells #[.float .f64 v] 23)) := (Below.refl _ _).alloc (Nat.le_refl _) _
    have hr1 := hr.below hbw
    have hB : (w.alloc (.cells #[.float .f64 v] 23)).cell? ⟨w.heap.size, 0, none⟩ = some (.float .f64 v) := by rw [World.cell?_alloc_at _ _ _ _ rfl]; rfl
    cases hi : finf (cn v)
    all_goals
      have Hi := Lib.hid hi
      clear hi
      go_enter Try.func26, Try.ntmps26
      go_wp2_with fail
      refine (contains_ne _ n cap ss _ hr1 w.heap.size v hB).mono ?_
      rintro e w1 ⟨rfl, b1⟩
      rw [Hany.out]
      have hbox : w1.cell? ⟨w.heap.size, 0, none⟩ = some (.float .f64 v) := by rw [b1.cell (p := ⟨w.heap.size, 0, none⟩) (by simp)]; exact hB
      have b2 : Below w.heap.size w w1 := hbw.trans (b1.mono (by simp))
      clear hB b1 hbw hr1 hr
      go_wp2_with (first | (go_at_call 57; refine (infinite_any _ _).mono ?_; rintro e w' ⟨rfl, rfl⟩; rw [Hi.out]) | (go_at_call 52; refine (nan_any _).mono ?_; rintro e w' ⟨rfl, rfl⟩))
      all_goals try go_region
      all_goals try go_wp2_with fail
      go_ret2
    · exact ⟨_, _, rfl, cn_zero, rfl, b2.drewN' 1⟩
    · exact ⟨_, _, rfl, cn_nanc, cn_nanc, b2⟩

/-- A new total. -/
def tot0 : Obj := .cells #[.float .f64 0, .float .f64 0] 61
theorem tots4 (w1 : World) : TotIs ((((w1.alloc tot0).alloc tot0).alloc tot0).alloc tot0) w1.heap.size (0, 0) ∧ TotIs ((((w1.alloc tot0).alloc tot0).alloc tot0).alloc tot0) (w1.heap.size + 1) (0, 0) ∧
    TotIs ((((w1.alloc tot0).alloc tot0).alloc tot0).alloc tot0) (w1.heap.size + 2) (0, 0) ∧ TotIs ((((w1.alloc tot0).alloc tot0).alloc tot0).alloc tot0) (w1.heap.size + 3) (0, 0) := by
  have h : ∀ w : World, Bk.Is (w.alloc tot0) w.heap.size #[.float .f64 0, .float .f64 0] 61 := fun w => Bk.Is.made w _ _
  refine ⟨⟨0, 0, (((h w1).alloc _).alloc _).alloc _, cn_zero, cn_zero⟩, ⟨0, 0, ?_, cn_zero, cn_zero⟩, ⟨0, 0, ?_, cn_zero, cn_zero⟩, ⟨0, 0, ?_, cn_zero, cn_zero⟩⟩
  · have := ((h (w1.alloc tot0)).alloc tot0).alloc tot0
    rwa [World.size_alloc] at this
  · have := (h ((w1.alloc tot0).alloc tot0)).alloc tot0
    rwa [World.size_alloc, World.size_alloc] at this
  · have := h (((w1.alloc tot0).alloc tot0).alloc tot0)
    rwa [World.size_alloc, World.size_alloc, World.size_alloc] at this

set_option maxHeartbeats 4000000 in
set_option maxRecDepth 100000 in
theorem line_calc (a : Option Addr) (n cap : Nat) (ss : List Smp) (z : Int) (w : World) (hr : SRow w a n ss) (h0 : 0 < n) (hlv : levelS (vcs ss) = false) :
    Calls Try.prog 26 #[.slice a n cap, .int .i64 z] w (FB2 (lineC (tcs z ss) (vcs ss)) w) := by
  have hl := hr.1
  have hm := hr.2.1
  have hc := hr.2.2.2
  obtain ⟨b, off, rfl, hcell⟩ := hr.2.2.2 h0
  have c1 : w.cell? ⟨b, off + 1, none⟩ = some (.float .f64 (vS ss 0)) := by simpa using (hcell 0 h0).2.1
  have hat := at0_vcs ss (i := 0) (by omega)
  have hn0 : ((n : Int) == 0) = false := by simp; omega
  have hmf : ∀ (fn : Fn) (first cap : Array Value) (w : World), (Instr.makeFunc fn first cap).run Try.prog w = .ok (.func fn first cap) w := fun _ _ _ _ => rfl
  have hblt : b < w.heap.size := World.block_lt_of_cell? w _ c1
  have hor : n ≠ 1 ∧ anyNe (vcs ss) (cn (vS ss 0)) = true := by
    simp only [levelS, Bool.or_eq_false_iff, beq_eq_false_iff_ne, Bool.not_eq_false', length_vcs, hl, hat] at hlv
    exact hlv
  obtain ⟨h1, hany⟩ := hor
  have hn1 : ((n : Int) == 1) = false := by simp; omega
  clear hlv hat h1
  have Hl := Lib.hid hl
  have HC := Lib.hid hcell
  have Hany := Lib.hid hany
  clear hl hcell hany hc
  generalize hv : vS ss 0 = v at c1 Hany
  have Hv := Lib.hid hv
  clear hv
  have hbw : Below w.heap.size w (w.alloc (.cells #[.float .f64 v] 23)) := (Below.refl _ _).alloc (Nat.le_refl _) _
  have hr1 := hr.below hbw
  have hB : (w.alloc (.cells #[.float .f64 v] 23)).cell? ⟨w.heap.size, 0, none⟩ = some (.float .f64 v) := by rw [World.cell?_alloc_at _ _ _ _ rfl]; rfl
  go_enter Try.func26, Try.ntmps26
  go_wp2_with fail
  refine (contains_ne _ n cap ss _ hr1 w.heap.size v hB).mono ?_
  rintro e w1 ⟨rfl, b1⟩
  rw [Hany.out]
  have b2 : Below w.heap.size w w1 := hbw.trans (b1.mono (by simp))
  have hlt1 : w.heap.size < w1.heap.size := Nat.lt_of_lt_of_le (by simp) b1.size
  clear hB b1 hbw hr1 hr c1
  go_wp2_with fail
  go_loopw [44] (LineRel (tcs z ss) (vcs ss) n w1.heap.size w) (fun i _ => n - (intOf i).toNat)
  case atStart =>
    obtain ⟨t0, t1, t2, t3⟩ := tots4 w1
    exact ⟨0, by omega, rfl, t0, t1, t2, t3, (((b2.alloc (by omega) _).alloc (by simp; omega) _).alloc (by simp; omega) _).alloc (by simp; omega) _, by simp⟩
  case round =>
    obtain ⟨k, hk, rfl, t0, t1, t2, t3, bw, hsz⟩ := hrel
    have T0 := Lib.hid t0
    have T1 := Lib.hid t1
    have T2 := Lib.hid t2
    have T3 := Lib.hid t3
    clear t0 t1 t2 t3
    by_cases hlt : k < n
    · obtain ⟨c0, c1, c2⟩ := HC.out k hlt
      have k0 : wr.cell? ⟨b, off + k * 3, none⟩ = some (.int .i64 (tS ss k)) := by rw [bw.cell (p := ⟨b, off + k * 3, none⟩) hblt]; exact c0
      have k1 : wr.cell? ⟨b, off + k * 3 + 1, none⟩ = some (.float .f64 (vS ss k)) := by rw [bw.cell (p := ⟨b, off + k * 3 + 1, none⟩) hblt]; exact c1
      have k2 : wr.cell? ⟨b, off + k * 3 + 2, none⟩ = some (.bool (sS ss k)) := by rw [bw.cell (p := ⟨b, off + k * 3 + 2, none⟩) hblt]; exact c2
      clear c0 c1 c2
      have HatV := Lib.hid (at0_vcs ss (i := k) (by rw [Hl.out]; exact hlt))
      have HatT := Lib.hid (at0_tcs z ss (i := k) (by rw [Hl.out]; exact hlt))
      generalize htt : tS ss k = tt at k0 HatT
      generalize hvv : vS ss k = vv at k1 HatV
      generalize hbb : sS ss k = bb at k2
      have Hgen := Lib.hid (And.intro htt (And.intro hvv hbb))
      clear htt hvv hbb
      go_wp2_with (first | (refine Bk.is_store 35 rfl ?_; refine Bk.wpList_store_box0 rfl 35 _ _ rfl #[.int .i64 tt, .float .f64 vv, .bool bb] #[.int .i64 0, .float .f64 0, .bool false] 35 rfl rfl (by kernel_rfl) rfl rfl ?_; intro W hI hbW; have q0 := hI.cell 0; have q1 := hI.cell 1; simp at q0 q1) | (refine wpList_fop _ _ _ _ _ _ _ rfl rfl rfl ?_; intro r nq hr9; have Hr9 := Lib.hid hr9; clear hr9))
      have hbx : Below wr.heap.size wr ((wr.alloc (.cells #[.int .i64 tt, .float .f64 vv, .bool bb] 35)).drewN nq) := ((Below.refl _ _).alloc (Nat.le_refl _) _).drewN' _
      have q1 : ((wr.alloc (.cells #[.int .i64 tt, .float .f64 vv, .bool bb] 35)).drewN nq).cell? ⟨wr.heap.size, 1, none⟩ = some (.float .f64 vv) := by
        show (wr.alloc _).cell? _ = _
        rw [World.cell?_alloc_at _ _ _ _ rfl]; rfl
      have bwx := (bw.trans (hbx.mono bw.size))
      have s1 : wr.heap.size < ((wr.alloc (.cells #[.int .i64 tt, .float .f64 vv, .bool bb] 35)).drewN nq).heap.size := by show _ < (wr.alloc _).heap.size; simp
      generalize (wr.alloc (.cells #[.int .i64 tt, .float .f64 vv, .bool bb] 35)).drewN nq = W at hbx q1 bwx s1 ⊢
      have U0 := Lib.hid (T0.out.below hbx (by omega))
      have U1 := Lib.hid (T1.out.below hbx (by omega))
      have U2 := Lib.hid (T2.out.below hbx (by omega))
      have U3 := Lib.hid (T3.out.below hbx (by omega))
      obtain ⟨X, hX⟩ : ∃ X, X = wr.heap.size := ⟨_, rfl⟩
      rw [← hX] at q1 s1 hsz ⊢
      have hR : cn r = at0 (tcs z ss) k := by rw [Hr9.out, HatT.out, fop_quo, fdiv_cn1]; rfl
      have HR := Lib.hid hR
      clear T0 T1 T2 T3 hbx hR Hr9 k0 k1 k2 bw
      refine (add_tot U0.out r _ HR.out).mono ?_
      rintro e w2 ⟨rfl, a0, keep, bel, cel, sz⟩
      have V0 := Lib.hid a0
      have V1 := Lib.hid (keep _ _ (by omega) U1.out)
      have V2 := Lib.hid (keep _ _ (by omega) U2.out)
      have V3 := Lib.hid (keep _ _ (by omega) U3.out)
      have bw2 := bel _ (by omega) _ bwx
      have q2 := (cel ⟨X, 1, none⟩ (by show X ≠ _; omega)).trans q1
      rw [← sz] at s1
      clear a0 keep bel cel sz U0 U1 U2 U3 q1 bwx hX
      go_wp2_with fail
      refine (add_tot V1.out vv _ HatV.out.symm).mono ?_
      rintro e w3 ⟨rfl, a1, keep, bel, cel, sz⟩
      have X1 := Lib.hid a1
      have X0 := Lib.hid (keep _ _ (by omega) V0.out)
      have X2 := Lib.hid (keep _ _ (by omega) V2.out)
      have X3 := Lib.hid (keep _ _ (by omega) V3.out)
      have bw3 := bel _ (by omega) _ bw2
      have q3 := (cel ⟨X, 1, none⟩ (by show X ≠ _; omega)).trans q2
      rw [← sz] at s1
      clear a1 keep bel cel sz V0 V1 V2 V3 q2 bw2
      go_wp2_with (refine wpList_fop _ _ _ _ _ _ _ rfl rfl rfl ?_; intro r2 nq2 hr9; have Hr2 := Lib.hid hr9; clear hr9)
      have hM : cn r2 = at0 (muls (tcs z ss) (vcs ss)) k := by rw [at0_muls (by rw [length_tcs, Hl.out]; exact hlt) (by rw [length_vcs, Hl.out]; exact hlt), ← HR.out, HatV.out, Hr2.out]; rfl
      have HM := Lib.hid hM
      clear hM Hr2
      refine (add_tot (X2.out.drewN nq2) r2 _ HM.out).mono ?_
      rintro e w4 ⟨rfl, a2, keep, bel, cel, sz⟩
      have Y2 := Lib.hid a2
      have Y0 := Lib.hid (keep _ _ (by omega) (X0.out.drewN nq2))
      have Y1 := Lib.hid (keep _ _ (by omega) (X1.out.drewN nq2))
      have Y3 := Lib.hid (keep _ _ (by omega) (X3.out.drewN nq2))
      have bw4 := bel _ (by omega) _ (bw3.drewN' nq2)
      have s4 : X < w4.heap.size := by rw [sz]; exact s1
      clear a2 keep bel cel sz X0 X1 X2 X3 bw3 s1 q3
      go_wp2_with (refine wpList_fop _ _ _ _ _ _ _ rfl rfl rfl ?_; intro r3 nq3 hr9; have Hr3 := Lib.hid hr9; clear hr9)
      have hM : cn r3 = at0 (muls (tcs z ss) (tcs z ss)) k := by rw [at0_muls (by rw [length_tcs, Hl.out]; exact hlt) (by rw [length_tcs, Hl.out]; exact hlt), ← HR.out, Hr3.out]; rfl
      have HM3 := Lib.hid hM
      clear hM Hr3
      refine (add_tot (Y3.out.drewN nq3) r3 _ HM3.out).mono ?_
      rintro e w5 ⟨rfl, a3, keep, bel, cel, sz⟩
      have Z3 := Lib.hid a3
      have Z0 := Lib.hid (keep _ _ (by omega) (Y0.out.drewN nq3))
      have Z1 := Lib.hid (keep _ _ (by omega) (Y1.out.drewN nq3))
      have Z2 := Lib.hid (keep _ _ (by omega) (Y2.out.drewN nq3))
      have bw5 := bel _ (by omega) _ (bw4.drewN' nq3)
      have s5 : X < w5.heap.size := by rw [sz]; exact s4
      clear a3 keep bel cel sz Y0 Y1 Y2 Y3 bw4 s4
      go_wp2_with fail
      go_roundw
      case rel => exact ⟨k + 1, by omega, by go_num, Z0.out, Z1.out, Z2.out, Z3.out, bw5, by omega⟩
      case measure => simp [intOf]; omega
    · have hk' : k = n := by omega
      subst hk'
      clear hlt hk
      go_wp2_with fail
      refine (answer_tot T0.out).mono ?_
      rintro e w2 ⟨rx, m1, rfl, hx, rfl⟩
      have hX : cn rx = sumS (tcs z ss) := by rw [hx, sumS, length_tcs, Hl.out]
      have HX := Lib.hid hX
      clear hx hX
      go_wp2_with fail
      refine (answer_tot (B := w1.heap.size + 1) (st := totT (vcs ss) k) (by exact T1.out)).mono ?_
      rintro e w2 ⟨ry, m2, rfl, hx, rfl⟩
      have hX : cn ry = sumS (vcs ss) := by rw [hx, sumS, length_vcs, Hl.out]
      have HY := Lib.hid hX
      clear hx hX
      go_wp2_with fail
      refine (answer_tot (B := w1.heap.size + 2) (st := totT (muls (tcs z ss) (vcs ss)) k) (by exact T2.out)).mono ?_
      rintro e w2 ⟨rxy, m3, rfl, hx, rfl⟩
      have hX : cn rxy = sumS (muls (tcs z ss) (vcs ss)) := by rw [hx, sumS, length_muls (by rw [length_tcs, length_vcs]), length_tcs, Hl.out]
      have HXY := Lib.hid hX
      clear hx hX
      go_wp2_with (refine wpList_fop _ _ _ _ _ _ _ rfl rfl rfl ?_; intro r nq hr9)
      refine (answer_tot (B := w1.heap.size + 3) (st := totT (muls (tcs z ss) (tcs z ss)) k) (by exact T3.out)).mono ?_
      rintro e w2 ⟨rxx, m4, rfl, hx, rfl⟩
      have hX : cn rxx = sumS (muls (tcs z ss) (tcs z ss)) := by rw [hx, sumS, length_muls rfl, length_tcs, Hl.out]
      have HXX := Lib.hid hX
      clear hx hX
      clear T0 T1 T2 T3
      go_wp2_with (refine wpList_fop _ _ _ _ _ _ _ rfl rfl rfl ?_; intro r nq hr9)
      go_ret2
      have hnk : cn (floatOfInt .f64 (k : Int)) = nfl k := cn_nfl k
      refine ⟨_, _, rfl, ?_, ?_, ?_⟩
      · simp only [lineC, length_tcs, Hl.out, fop_quo, fop_mul, fop_sub, HX.out, HY.out, HXY.out, HXX.out, *]
      · simp only [lineC, length_tcs, Hl.out, fop_quo, fop_mul, fop_sub, HX.out, HY.out, HXY.out, HXX.out, *]
      · repeat (first | exact bw | refine Below.drewN' ?_ _)

theorem line_any (a : Option Addr) (n cap : Nat) (ss : List Smp) (z : Int) (w : World) (hr : SRow w a n ss) :
    Calls Try.prog 26 #[.slice a n cap, .int .i64 z] w (FB2 (lineS (tcs z ss) (vcs ss)) w) := by
  have hl := hr.1
  by_cases h0 : n = 0
  · subst h0
    have : lineS (tcs z ss) (vcs ss) = (nanc, nanc) := by unfold lineS; rw [if_pos (by rw [length_vcs, hl])]
    rw [this]
    exact line_none cap a z w
  · have hne : ¬ (vcs ss).length = 0 := by rw [length_vcs, hl]; exact h0
    cases hlv : levelS (vcs ss)
    · have : lineS (tcs z ss) (vcs ss) = lineC (tcs z ss) (vcs ss) := by unfold lineS; rw [if_neg hne, if_neg (by rw [hlv]; simp)]
      rw [this]
      exact line_calc a n cap ss z w hr (by omega) hlv
    · have : lineS (tcs z ss) (vcs ss) = (if finf (at0 (vcs ss) 0) = true then (nanc, nanc) else (0, at0 (vcs ss) 0)) := by unfold lineS; rw [if_neg hne, if_pos hlv]
      rw [this]
      exact line_level a n cap ss z w hr (by omega) hlv

end Go.Proofs.Ytllphokepjekpaa
