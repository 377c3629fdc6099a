/- weirref06.Turn: what it answers. -/
import Derived.Test.YtllphokepjekpaaTurnA
namespace Go.Proofs.Ytllphokepjekpaa
open Go.Fl Go.Rel Go.RowKit

def RTurnRel (vs ks : List Nat) (n N : Nat) (w : World) (v6 v7 vi : Value) (wr : World) : Prop :=
  ∃ k r q, k ≤ n ∧ v6 = .float .f64 r ∧ v7 = .float .f64 q ∧ vi = .int .i64 (k : Int) ∧ Hid (cn r = (turnT vs ks k).1 ∧ cn q = (turnT vs ks k).2) ∧ Hid (Bk.Is wr N cosA 23) ∧ Hid (Bk.Is wr (N + 1) sinA 23) ∧ Below w.heap.size w wr ∧ N + 2 ≤ wr.heap.size

set_option maxHeartbeats 4000000 in
set_option maxRecDepth 100000 in
theorem refturn_none (a : Option Addr) (n cap : Nat) (p : Int) (w : World) (h : p < 1 ∨ 315360000000000 < p) :
    Calls Try.prog 29 #[.slice a n cap, .int .i64 p] w (FB2 (0, 0) w) := by
  have e0 : cn 0 = 0 := cn_zero
  by_cases h1 : p < 1
  · have d1 : decide (p < 1) = true := decide_eq_true h1
    go_enter Try.func29, Try.ntmps29
    go_wp2
    go_ret2
    exact ⟨0, 0, rfl, e0, e0, Below.refl _ _⟩
  · have d1 : decide (p < 1) = false := decide_eq_false h1
    have h2 : 315360000000000 < p := by omega
    have d2 : decide (p > 315360000000000) = true := decide_eq_true h2
    go_enter Try.func29, Try.ntmps29
    go_wp2
    go_ret2
    exact ⟨0, 0, rfl, e0, e0, Below.refl _ _⟩

set_option maxHeartbeats 4000000 in
set_option maxRecDepth 100000 in
theorem refturn_some (a : Option Addr) (n cap : Nat) (ss : List Smp) (p : Int) (w : World) (hr : SRow w a n ss) (h1 : 1 ≤ p) (h2 : p ≤ 315360000000000) :
    Calls Try.prog 29 #[.slice a n cap, .int .i64 p] w (FB2 (turnT (vcs ss) (eigs ss p) (vcs ss).length) w) := by
  have hl := hr.1
  have hm := hr.2.1
  have hc := hr.2.2.2
  have d1 : decide (p < 1) = false := decide_eq_false (by omega)
  have d2 : decide (p > 315360000000000) = false := decide_eq_false (by omega)
  have Hl := Lib.hid hl
  have HC := Lib.hid hc
  clear hl hc hr
  have hng : ∀ w, (Op.unary UnOp.neg (.float .f64 hB)).run Try.prog w = .ok (.float .f64 hM) w := fun _ => by kernel_rfl
  go_enter Try.func29, Try.ntmps29
  go_wp2_with (go_at_call 63; refine (rhalf_any _).mono ?_; rintro e w' ⟨rfl, rfl⟩)
  go_loopw [6, 7, 11] (RTurnRel (vcs ss) (eigs ss p) n w.heap.size w) (fun _ _ i _ => n - (intOf i).toNat)
  case atStart =>
    refine ⟨0, 0, 0, by omega, rfl, rfl, rfl, ⟨cn_zero, cn_zero⟩, (Bk.Is.made w cosA 23).alloc _, ?_, (((Below.refl _ _).alloc (Nat.le_refl _) _).alloc (by simp) _), by simp⟩
    have := Bk.Is.made (w.alloc (.cells cosA 23)) sinA 23
    rw [World.size_alloc] at this
    exact this
  case round =>
    obtain ⟨k, r, q, hk, rfl, rfl, rfl, HT, HI0, HI1, bw, hsz⟩ := hrel
    by_cases hlt : k < n
    · obtain ⟨b, off, rfl, hcell⟩ := HC.out (by omega)
      obtain ⟨c0, c2, c3⟩ := hcell k hlt
      have c1 : w.cell? ⟨b, off, none⟩ = some (.int .i64 (tS ss 0)) := by simpa using (hcell 0 (by omega)).1
      have hblt : b < w.heap.size := World.block_lt_of_cell? w _ c1
      have k0 : wr.cell? ⟨b, off + k * 3, none⟩ = some (.int .i64 (tS ss k)) := by rw [bw.cell (p := ⟨b, off + k * 3, none⟩) hblt]; exact c0
      have k1 : wr.cell? ⟨b, off + k * 3 + 1, none⟩ = some (.float .f64 (vS ss k)) := by rw [bw.cell (p := ⟨b, off + k * 3 + 1, none⟩) hblt]; exact c2
      have kf : wr.cell? ⟨b, off, none⟩ = some (.int .i64 (tS ss 0)) := by rw [bw.cell (p := ⟨b, off, none⟩) hblt]; exact c1
      have HatV := Lib.hid (at0_vcs ss (i := k) (by rw [Hl.out]; exact hlt))
      have HatK := Lib.hid (at0_eigs ss p (i := k) (by rw [Hl.out]; exact hlt))
      generalize tS ss k = tt at k0 HatK
      generalize vS ss k = vv at k1 HatV
      generalize tS ss 0 = t0 at kf HatK
      clear c0 c2 c3 c1 hcell
      obtain ⟨D, hD⟩ : ∃ D, D = wrap64 (tt - t0) := ⟨_, rfl⟩
      have hD' : wrap64 (tt - t0) = D := hD.symm
      have hDb : -9223372036854775808 ≤ D ∧ D ≤ 9223372036854775807 := by rw [hD]; unfold wrap64; omega
      rw [hD'] at HatK
      clear hD
      have hm1 := Int.emod_nonneg D (show p ≠ 0 by omega)
      have hm2 := Int.emod_lt_of_pos D (show 0 < p by omega)
      obtain ⟨e1, e2, e3⟩ := eig_of hm1 hm2
      have hE : eig D p = 8 * (D % p) / p := rfl
      obtain ⟨K, hK⟩ : ∃ K : Nat, (K : Int) = eig D p := ⟨(eig D p).toNat, by omega⟩
      have hK8 : K < 8 := by omega
      have hei := fun w => eighth_any D p w h1 h2 hDb
      rw [← hK] at HatK hei
      rw [Int.toNat_natCast] at HatK
      have HEI := Lib.hid hei
      clear hE hK e1 e2 e3 hm1 hm2 hDb hei
      have I0 := HI0.out
      have I1 := HI1.out
      have cc : wr.cell? ⟨w.heap.size, K, none⟩ = some (.float .f64 (at0 cosT K)) := (I0.cell K).trans (cosA_get K hK8)
      have cs : wr.cell? ⟨w.heap.size + 1, K, none⟩ = some (.float .f64 (at0 sinT K)) := (I1.cell K).trans (sinA_get K hK8)
      clear I0 I1
      have hst : turnT (vcs ss) (eigs ss p) (k + 1) = (fadd (turnT (vcs ss) (eigs ss p) k).1 (fmul (at0 (vcs ss) k) (at0 cosT (at0 (eigs ss p) k))), fadd (turnT (vcs ss) (eigs ss p) k).2 (fmul (at0 (vcs ss) k) (at0 sinT (at0 (eigs ss p) k)))) := rfl
      rw [HatV.out, HatK.out, ← HT.out.1, ← HT.out.2] at hst
      have HST := Lib.hid hst
      have hcc : at0 cosT K = at0 cosT K ∧ cn (at0 cosT K) = at0 cosT K := ⟨rfl, by match K, hK8 with | 0, _ => decide +kernel | 1, _ => decide +kernel | 2, _ => decide +kernel | 3, _ => decide +kernel | 4, _ => decide +kernel | 5, _ => decide +kernel | 6, _ => decide +kernel | 7, _ => decide +kernel⟩
      have hcs : at0 sinT K = at0 sinT K ∧ cn (at0 sinT K) = at0 sinT K := ⟨rfl, by match K, hK8 with | 0, _ => decide +kernel | 1, _ => decide +kernel | 2, _ => decide +kernel | 3, _ => decide +kernel | 4, _ => decide +kernel | 5, _ => decide +kernel | 6, _ => decide +kernel | 7, _ => decide +kernel⟩
      have HCC := Lib.hid hcc.2
      have HCS := Lib.hid hcs.2
      clear hst hcc hcs HatV HatK HT
      generalize at0 cosT K = vc at cc HCC HST
      generalize at0 sinT K = vsn at cs HCS HST
      go_wp2_with fail
      go_quiet (first | (go_at_call 64; exact quiet_of_eq (HEI.out _)) | (go_at_call 64; exact quiet_of_eq2 (HEI.out _)))
      have k1' : (wr.drewN nq).cell? ⟨b, off + k * 3 + 1, none⟩ = some (.float .f64 vv) := k1
      have cc' : (wr.drewN nq).cell? ⟨w.heap.size, K, none⟩ = some (.float .f64 vc) := cc
      have cs' : (wr.drewN nq).cell? ⟨w.heap.size + 1, K, none⟩ = some (.float .f64 vsn) := cs
      have J0 := Lib.hid (HI0.out.drewN nq)
      have J1 := Lib.hid (HI1.out.drewN nq)
      have bw2 := bw.drewN' nq
      have s2 : w.heap.size + 2 ≤ (wr.drewN nq).heap.size := hsz
      clear k0 k1 kf cc cs HI0 HI1 bw hsz HEI hD'
      generalize wr.drewN nq = W2 at k1' cc' cs' J0 J1 bw2 s2 ⊢
      go_wp2_with fail
      refine wp_region_rel (fun wd => ∃ nd, wd = W2.drewN nd) (fun _ _ _ => False) (by kernel_rfl) (by kernel_rfl) (by repeat (first | exact ⟨_, rfl⟩ | refine drew_class _ _ ?_ | refine drewN_class _ _ _ ?_)) ?_
      repeat (first | (refine wpRel_fop _ _ _ _ _ _ _ rfl rfl rfl rfl (drewN_class W2) ?_; intro r2 hr9; go_big_quiet_step (fail); refine wpQuiet_nil ?_) | (refine wpRel_quiet rfl ?_; go_big_quiet_step (fail); refine wpQuiet_nil ?_))
      refine wpRel_nil ?_
      rintro w3 ⟨m3, rfl⟩
      have R2 := Lib.hid (And.intro ‹cn _ = fop .mul _ _› hr9)
      have k1'' : (W2.drewN m3).cell? ⟨b, off + k * 3 + 1, none⟩ = some (.float .f64 vv) := k1'
      have cs'' : (W2.drewN m3).cell? ⟨w.heap.size + 1, K, none⟩ = some (.float .f64 vsn) := cs'
      have L0 := Lib.hid (J0.out.drewN m3)
      have L1 := Lib.hid (J1.out.drewN m3)
      have bw3 := bw2.drewN' m3
      have s3 : w.heap.size + 2 ≤ (W2.drewN m3).heap.size := s2
      clear k1' cc' cs' J0 J1 bw2 s2 hr9
      generalize W2.drewN m3 = W3 at k1'' cs'' L0 L1 bw3 s3 ⊢
      go_wp2_with fail
      refine wp_region_rel (fun wd => ∃ nd, wd = W3.drewN nd) (fun _ _ _ => False) (by kernel_rfl) (by kernel_rfl) (by repeat (first | exact ⟨_, rfl⟩ | refine drew_class _ _ ?_ | refine drewN_class _ _ _ ?_)) ?_
      repeat (first | (refine wpRel_fop _ _ _ _ _ _ _ rfl rfl rfl rfl (drewN_class W3) ?_; intro q2 hr9; go_big_quiet_step (fail); refine wpQuiet_nil ?_) | (refine wpRel_quiet rfl ?_; go_big_quiet_step (fail); refine wpQuiet_nil ?_))
      refine wpRel_nil ?_
      rintro w4 ⟨m4, rfl⟩
      go_wp2_with fail
      refine ⟨⟨k + 1, r2, q2, by omega, rfl, rfl, by go_num, ⟨?_, ?_⟩, L0.out.drewN _, L1.out.drewN _, bw3.drewN' _, s3⟩, by simp [intOf]; omega⟩
      · rw [HST.out, R2.out.2, R2.out.1, HCC.out]; rfl
      · rw [HST.out]
        simp only [fop_mul, fop_add, HCS.out, *]
    · have hk' : k = n := by omega
      subst hk'
      clear hlt hk
      go_wp2_with fail
      go_ret2
      exact ⟨r, q, rfl, by rw [HT.out.1, length_vcs, Hl.out], by rw [HT.out.2, length_vcs, Hl.out], bw⟩

theorem refturn_any (a : Option Addr) (n cap : Nat) (ss : List Smp) (p : Int) (w : World) (hr : SRow w a n ss) :
    Calls Try.prog 29 #[.slice a n cap, .int .i64 p] w (FB2 (turnS (vcs ss) (eigs ss p) p) w) := by
  unfold turnS
  by_cases h : p < 1 ∨ 315360000000000 < p
  · rw [if_pos h]
    exact refturn_none a n cap p w h
  · rw [if_neg h]
    exact refturn_some a n cap ss p w hr (by omega) (by omega)

end Go.Proofs.Ytllphokepjekpaa
