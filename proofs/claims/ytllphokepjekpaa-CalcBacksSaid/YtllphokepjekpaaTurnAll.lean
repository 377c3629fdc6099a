/- Turns: tables, eighths, sums of complex numbers as two sums. calc.Turn: what it answers. weirref06.Turn: what it answers. -/
import Derived.Test.YtllphokepjekpaaLineAll
import Derived.Test.YtllphokepjekpaaArith
namespace Go.Fl
open Go.Rel

section
variable {P : Program} {ops : Array Oper} {a : Act} {rest : List Oper}

/-- '+' on complex numbers: part by part, up to which NaN is drawn. -/
theorem run_cadd (w : World) (t : TypeId) (x y u v : Nat) :
    ∃ r q n, (binOp .add t (.complex .f64 x y) (.complex .f64 u v)).run P w = .ok (.complex .f64 r q) (w.drewN n) ∧ cn r = fadd x u ∧ cn q = fadd y v := by
  obtain ⟨r, n, hr, hc⟩ := run_fop (P := P) w .add (.inl rfl) t x u
  obtain ⟨q, m, hq, hd⟩ := run_fop (P := P) (w.drewN n) .add (.inl rfl) t y v
  refine ⟨r, q, n + m, ?_, hc, hd⟩
  have e1 : (Op.Complex.arith .add .f64 x u).run P w = .ok r (w.drewN n) := by
    have h : (Op.floatArith .add .f64 x u).run P w = .ok (.float .f64 r) (w.drewN n) := by simpa [binOp] using hr
    simp [Op.Complex.arith, h]
  have e2 : (Op.Complex.arith .add .f64 y v).run P (w.drewN n) = .ok q ((w.drewN n).drewN m) := by
    have h : (Op.floatArith .add .f64 y v).run P (w.drewN n) = .ok (.float .f64 q) ((w.drewN n).drewN m) := by simpa [binOp] using hq
    simp [Op.Complex.arith, h]
  simp [binOp, Op.complexOp, e1, e2, World.drewN_drewN]

variable {C : World → Prop} {Rc : FuncId → Array Value → Value → Prop} {Q' : Act → Prop}

theorem wpRel_cadd {dst : Option Tmp} {ty : TypeId} {pos : String} {after : Array Edge} {guard : Option (Nat × Bool)} (t t' : TypeId) (x y : Operand) (p q u v : Nat)
    (hg : Region.wanted { dst, op := .binOp .add t x y t', type := ty, pos, after, guard } (yielded ops a.tmps) = true)
    (hx : a.eval x = .complex .f64 p q) (hy : a.eval y = .complex .f64 u v) (hC : ∀ w n, C w → C (w.drewN n))
    (h : ∀ r s, cn r = fadd p u → cn s = fadd q v → wpQuiet P ops C (fun a' => wpRel P ops C Rc Q' rest a') [{ dst, op := .move (.const (.complex .f64 r s)), type := ty, pos, after := #[], guard := none }] a) :
    wpRel P ops C Rc Q' ({ dst, op := .binOp .add t x y t', type := ty, pos, after, guard } :: rest) a := by
  show relAt P ops C Rc _ a _
  unfold relAt
  rw [if_pos hg]
  intro w hw
  obtain ⟨r, s, n, hr, hc, hd⟩ := run_cadd (P := P) w t p q u v
  have : (execOp a.eval { dst, op := .binOp .add t x y t', type := ty, pos, after, guard }).run P w = .ok (.value (.complex .f64 r s)) (w.drewN n) := by
    simp [execOp, hx, hy, eqGuard, hr]
  rw [this]
  exact ⟨hC w n hw, fun v' hv => by cases hv; exact wpRel_laid w hw (h r s hc hd)⟩
end

theorem fadd_cn1 (x y : Nat) : fadd (cn x) (cn y) = fadd x y := fop_cn .add x y

/-- Which eighth of the period. -/
def eig (d p : Int) : Int := 8 * (d % p) / p

theorem tmod_or (d p : Int) (hp : 0 < p) : (d.tmod p < 0 ∧ d.tmod p + p = d % p) ∨ (0 ≤ d.tmod p ∧ d.tmod p = d % p) := by
  have h1 := Int.emod_nonneg d (show p ≠ 0 by omega)
  have h2 := Int.emod_lt_of_pos d hp
  rw [Int.tmod_eq_emod]
  split
  · right; omega
  · left; omega

theorem eig_of {r p : Int} (h0 : 0 ≤ r) (h1 : r < p) : (8 * r).tdiv p = 8 * r / p ∧ 0 ≤ 8 * r / p ∧ 8 * r / p < 8 := by
  have hp : 0 < p := by omega
  refine ⟨Int.tdiv_eq_ediv_of_nonneg (by omega), Int.ediv_nonneg (by omega) (by omega), ?_⟩
  exact Int.ediv_lt_of_lt_mul hp (by omega)

def hB : Nat := 4604544271217802189
def hM : Nat := 13827916308072577997
def one' : Nat := 4607182418800017408
def oneM : Nat := 13830554455654793216
def cosT : List Nat := [one', hB, 0, hM, oneM, hM, 0, hB]
def sinT : List Nat := [0, hB, one', hB, 0, hM, oneM, hM]

end Go.Fl
namespace Go.Proofs.Ytllphokepjekpaa
open Go.Fl Go.Rel Go.RowKit

def cosA : Array Value := #[.float .f64 one', .float .f64 hB, .float .f64 0, .float .f64 hM, .float .f64 oneM, .float .f64 hM, .float .f64 0, .float .f64 hB]
def sinA : Array Value := #[.float .f64 0, .float .f64 hB, .float .f64 one', .float .f64 hB, .float .f64 0, .float .f64 hM, .float .f64 oneM, .float .f64 hM]

theorem cosA_get (k : Nat) (h : k < 8) : cosA[k]? = some (.float .f64 (at0 cosT k)) := by
  match k, h with
  | 0, _ => rfl | 1, _ => rfl | 2, _ => rfl | 3, _ => rfl | 4, _ => rfl | 5, _ => rfl | 6, _ => rfl | 7, _ => rfl
theorem sinA_get (k : Nat) (h : k < 8) : sinA[k]? = some (.float .f64 (at0 sinT k)) := by
  match k, h with
  | 0, _ => rfl | 1, _ => rfl | 2, _ => rfl | 3, _ => rfl | 4, _ => rfl | 5, _ => rfl | 6, _ => rfl | 7, _ => rfl

/-- The sum of the turned values, both parts. -/
def turnT (vs : List Nat) (ks : List Nat) : Nat → Nat × Nat
  | 0 => (0, 0)
  | k + 1 => (fadd (turnT vs ks k).1 (fmul (at0 vs k) (at0 cosT (at0 ks k))), fadd (turnT vs ks k).2 (fmul (at0 vs k) (at0 sinT (at0 ks k))))

/-- The samples' eighths. -/
def eigs (ss : List Smp) (p : Int) : List Nat := ss.map fun s => (eig (wrap64 (s.t - tS ss 0)) p).toNat
theorem at0_eigs (ss : List Smp) (p : Int) {i : Nat} (h : i < ss.length) : at0 (eigs ss p) i = (eig (wrap64 (tS ss i - tS ss 0)) p).toNat := by
  simp [eigs, at0, tS, sAt, List.getD, h]
theorem length_eigs (ss : List Smp) (p : Int) : (eigs ss p).length = ss.length := by simp [eigs]

def turnS (vs ks : List Nat) (p : Int) : Nat × Nat := if p < 1 ∨ 315360000000000 < p then (0, 0) else turnT vs ks vs.length

theorem half_any (w : World) : Calls Try.prog 65 #[] w fun e w' => e = .returned (.float .f64 hB) ∧ w = w' := by
  have hr := frombits_run 4604544271217802189 w
  go_enter Try.func65, Try.ntmps65
  go_wp2_with (simp only [hr])
  go_ret
  exact ⟨rfl, rfl⟩

theorem rbits_any (n : Int) (w : World) : Calls Try.prog 78 #[.int .u64 n] w fun e w' => e = .returned (.float .f64 n.toNat) ∧ w = w' := by
  have hr := frombits_run n w
  go_enter Try.func78, Try.ntmps78
  go_wp2_with (simp only [hr])
  go_ret
  exact ⟨rfl, rfl⟩

theorem rhalf_any (w : World) : Calls Try.prog 63 #[] w fun e w' => e = .returned (.float .f64 hB) ∧ w = w' := by
  go_enter Try.func63, Try.ntmps63
  go_wp2_with (go_at_call 78; refine (rbits_any _ _).mono ?_; rintro e w' ⟨rfl, rfl⟩)
  go_ret
  exact ⟨rfl, rfl⟩

set_option maxHeartbeats 1000000 in
theorem eighth_any (d p : Int) (w : World) (h1 : 1 ≤ p) (h2 : p ≤ 315360000000000) (_hd : -9223372036854775808 ≤ d ∧ d ≤ 9223372036854775807) :
    Calls Try.prog 64 #[.int .i64 d, .int .i64 p] w fun e w' => e = .returned (.int .i64 (eig d p)) ∧ w = w' := by
  have ht := tmod_or d p (by omega)
  have hm1 := Int.emod_nonneg d (show p ≠ 0 by omega)
  have hm2 := Int.emod_lt_of_pos d (show 0 < p by omega)
  obtain ⟨e1, e2, e3⟩ := eig_of hm1 hm2
  obtain ⟨R, hR⟩ : ∃ R, R = d.tmod p := ⟨_, rfl⟩
  obtain ⟨M, hM⟩ : ∃ M, M = d % p := ⟨_, rfl⟩
  have hE : eig d p = 8 * M / p := by rw [eig, hM]
  rw [hE]
  rw [← hM] at e1 e2 e3 hm1 hm2
  rw [← hR, ← hM] at ht
  obtain ⟨K, hK⟩ : ∃ K, K = 8 * M / p := ⟨_, rfl⟩
  rw [← hK] at e1 e2 e3 ⊢
  have hR' : d.tmod p = R := hR.symm
  have hpz : ¬ p = 0 := by omega
  clear hM hE hR hK
  rcases ht with ⟨t1, t2⟩ | ⟨t1, t2⟩
  · have t3 : R + p = M := t2
    have hb : -p ≤ R := by omega
    clear t2
    go_enter Try.func64, Try.ntmps64
    go_wp2
    go_ret
    exact ⟨rfl, rfl⟩
  · subst t2
    go_enter Try.func64, Try.ntmps64
    go_wp2
    go_ret
    exact ⟨rfl, rfl⟩

end Go.Proofs.Ytllphokepjekpaa

namespace Go.Proofs.Ytllphokepjekpaa
open Go.Fl Go.Rel Go.RowKit

/-- A complex number of these classes. -/
def CB (s : Nat × Nat) (w : World) (e : Ending) (w' : World) : Prop := ∃ r q, e = .returned (.complex .f64 r q) ∧ cn r = s.1 ∧ cn q = s.2 ∧ Below w.heap.size w w'

def TurnRel (vs ks : List Nat) (n N : Nat) (w : World) (vz vi : Value) (wr : World) : Prop :=
  ∃ k r q, k ≤ n ∧ vz = .complex .f64 r q ∧ vi = .int .i64 (k : Int) ∧ Hid (cn r = (turnT vs ks k).1 ∧ cn q = (turnT vs ks k).2) ∧ Hid (Bk.Is wr N cosA 67) ∧ Hid (Bk.Is wr (N + 1) sinA 67) ∧ Below w.heap.size w wr ∧ N + 2 ≤ wr.heap.size

set_option maxHeartbeats 1000000 in
set_option maxRecDepth 100000 in
theorem turn_none (a : Option Addr) (n cap : Nat) (p : Int) (w : World) (h : p < 1 ∨ 315360000000000 < p ∨ n = 0) (hm : n ≤ 9223372036854775807) :
    Calls Try.prog 31 #[.slice a n cap, .int .i64 p] w (CB (0, 0) w) := by
  have e0 : cn 0 = 0 := cn_zero
  by_cases h1 : p < 1
  · have d1 : decide (p < 1) = true := decide_eq_true h1
    go_enter Try.func31, Try.ntmps31
    go_wp2
    go_ret
    exact ⟨0, 0, rfl, e0, e0, Below.refl _ _⟩
  · have d1 : decide (p < 1) = false := decide_eq_false h1
    by_cases h2 : 315360000000000 < p
    · have d2 : decide (p > 315360000000000) = true := decide_eq_true h2
      go_enter Try.func31, Try.ntmps31
      go_wp2
      go_ret
      exact ⟨0, 0, rfl, e0, e0, Below.refl _ _⟩
    · have d2 : decide (p > 315360000000000) = false := decide_eq_false h2
      have h3 : n = 0 := by omega
      subst h3
      clear h
      go_enter Try.func31, Try.ntmps31
      go_wp2
      go_ret
      exact ⟨0, 0, rfl, e0, e0, Below.refl _ _⟩

set_option maxHeartbeats 4000000 in
set_option maxRecDepth 100000 in
theorem turn_some (a : Option Addr) (n cap : Nat) (ss : List Smp) (p : Int) (w : World) (hr : SRow w a n ss) (h0 : 0 < n) (h1 : 1 ≤ p) (h2 : p ≤ 315360000000000) :
    Calls Try.prog 31 #[.slice a n cap, .int .i64 p] w (CB (turnT (vcs ss) (eigs ss p) (vcs ss).length) w) := by
  have hl := hr.1
  have hm := hr.2.1
  have hwf := hr.2.2.1
  obtain ⟨b, off, rfl, hcell⟩ := hr.2.2.2 h0
  have c1 : w.cell? ⟨b, off, none⟩ = some (.int .i64 (tS ss 0)) := by simpa using (hcell 0 h0).1
  have hblt : b < w.heap.size := World.block_lt_of_cell? w _ c1
  have d1 : decide (p < 1) = false := decide_eq_false (by omega)
  have d2 : decide (p > 315360000000000) = false := decide_eq_false (by omega)
  have hn0 : ((n : Int) == 0) = false := by simp; omega
  have Hl := Lib.hid hl
  have HC := Lib.hid hcell
  have HW := Lib.hid hwf
  clear hl hcell hwf hr
  have hng : ∀ w, (Op.unary UnOp.neg (.float .f64 hB)).run Try.prog w = .ok (.float .f64 hM) w := fun _ => by kernel_rfl
  go_enter Try.func31, Try.ntmps31
  go_wp2_with (go_at_call 65; refine (half_any _).mono ?_; rintro e w' ⟨rfl, rfl⟩)
  go_loopw [8, 41] (TurnRel (vcs ss) (eigs ss p) n w.heap.size w) (fun _ i _ => n - (intOf i).toNat)
  case atStart =>
    refine ⟨0, 0, 0, by omega, rfl, rfl, ⟨cn_zero, cn_zero⟩, (Bk.Is.made w cosA 67).alloc _, ?_, (((Below.refl _ _).alloc (Nat.le_refl _) _).alloc (by simp) _), by simp⟩
    have := Bk.Is.made (w.alloc (.cells cosA 67)) sinA 67
    rw [World.size_alloc] at this
    exact this
  case round =>
    obtain ⟨k, r, q, hk, rfl, rfl, HT, HI0, HI1, bw, hsz⟩ := hrel
    by_cases hlt : k < n
    · obtain ⟨c0, c2, c3⟩ := HC.out k hlt
      have k0 : wr.cell? ⟨b, off + k * 3, none⟩ = some (.int .i64 (tS ss k)) := by rw [bw.cell (p := ⟨b, off + k * 3, none⟩) hblt]; exact c0
      have k1 : wr.cell? ⟨b, off + k * 3 + 1, none⟩ = some (.float .f64 (vS ss k)) := by rw [bw.cell (p := ⟨b, off + k * 3 + 1, none⟩) hblt]; exact c2
      have k2 : wr.cell? ⟨b, off + k * 3 + 2, none⟩ = some (.bool (sS ss k)) := by rw [bw.cell (p := ⟨b, off + k * 3 + 2, none⟩) hblt]; exact c3
      have kf : wr.cell? ⟨b, off, none⟩ = some (.int .i64 (tS ss 0)) := by rw [bw.cell (p := ⟨b, off, none⟩) hblt]; exact c1
      have HatV := Lib.hid (at0_vcs ss (i := k) (by rw [Hl.out]; exact hlt))
      have HatK := Lib.hid (at0_eigs ss p (i := k) (by rw [Hl.out]; exact hlt))
      generalize tS ss k = tt at k0 HatK
      generalize vS ss k = vv at k1 HatV
      generalize sS ss k = bb at k2
      generalize tS ss 0 = t0 at kf HatK c1
      clear c0 c2 c3
      obtain ⟨D, hD⟩ : ∃ D, D = wrap64 (tt - t0) := ⟨_, rfl⟩
      have hD' : wrap64 (tt - t0) = D := hD.symm
      rw [hD'] at HatK
      clear hD
      have ht := tmod_or D p (by omega)
      have hm1 := Int.emod_nonneg D (show p ≠ 0 by omega)
      have hm2 := Int.emod_lt_of_pos D (show 0 < p by omega)
      obtain ⟨e1, e2, e3⟩ := eig_of hm1 hm2
      obtain ⟨R, hR⟩ : ∃ R, R = D.tmod p := ⟨_, rfl⟩
      obtain ⟨M, hM⟩ : ∃ M, M = D % p := ⟨_, rfl⟩
      have hE : eig D p = 8 * M / p := by rw [eig, hM]
      rw [hE] at HatK
      rw [← hM] at e1 e2 e3 hm1 hm2
      rw [← hR, ← hM] at ht
      obtain ⟨K, hK⟩ : ∃ K : Nat, (K : Int) = 8 * M / p := ⟨(8 * M / p).toNat, by omega⟩
      rw [← hK] at e1 e2 e3 HatK
      rw [Int.toNat_natCast] at HatK
      have hR' : D.tmod p = R := hR.symm
      have hpz : ¬ p = 0 := by omega
      have hK8 : K < 8 := by omega
      clear hM hE hR hK e2 e3
      have hbx : Below wr.heap.size wr (wr.alloc (.cells #[.int .i64 tt, .float .f64 vv, .bool bb] 35)) := (Below.refl _ _).alloc (Nat.le_refl _) _
      have q0 : (wr.alloc (.cells #[.int .i64 tt, .float .f64 vv, .bool bb] 35)).cell? ⟨wr.heap.size, 0, none⟩ = some (.int .i64 tt) := by rw [World.cell?_alloc_at _ _ _ _ rfl]; rfl
      have q1 : (wr.alloc (.cells #[.int .i64 tt, .float .f64 vv, .bool bb] 35)).cell? ⟨wr.heap.size, 1, none⟩ = some (.float .f64 vv) := by rw [World.cell?_alloc_at _ _ _ _ rfl]; rfl
      have kf2 : (wr.alloc (.cells #[.int .i64 tt, .float .f64 vv, .bool bb] 35)).cell? ⟨b, off, none⟩ = some (.int .i64 t0) := by rw [hbx.cell (p := ⟨b, off, none⟩) (by exact Nat.lt_of_lt_of_le hblt bw.size)]; exact kf
      have I0 := HI0.out.below hbx (by omega)
      have I1 := HI1.out.below hbx (by omega)
      have cc : (wr.alloc (.cells #[.int .i64 tt, .float .f64 vv, .bool bb] 35)).cell? ⟨w.heap.size, K, none⟩ = some (.float .f64 (at0 cosT K)) := (I0.cell K).trans (cosA_get K hK8)
      have cs : (wr.alloc (.cells #[.int .i64 tt, .float .f64 vv, .bool bb] 35)).cell? ⟨w.heap.size + 1, K, none⟩ = some (.float .f64 (at0 sinT K)) := (I1.cell K).trans (sinA_get K hK8)
      have J0 := Lib.hid I0
      have J1 := Lib.hid I1
      have bwx := (bw.trans (hbx.mono bw.size))
      clear I0 I1 hbx kf
      have s1 : w.heap.size + 2 ≤ (wr.alloc (.cells #[.int .i64 tt, .float .f64 vv, .bool bb] 35)).heap.size := by simp; omega
      go_wp2_with fail
      obtain ⟨X, hX⟩ : ∃ X, X = wr.heap.size := ⟨_, rfl⟩
      rw [← hX] at q0 q1 ⊢
      clear k0 k1 k2 hX
      generalize wr.alloc (.cells #[.int .i64 tt, .float .f64 vv, .bool bb] 35) = W at q0 q1 kf2 cc cs J0 J1 bwx s1 ⊢
      go_quiet (fail)
      have q1' : (W.drewN nq).cell? ⟨X, 1, none⟩ = some (.float .f64 vv) := q1
      have cc' : (W.drewN nq).cell? ⟨w.heap.size, K, none⟩ = some (.float .f64 (at0 cosT K)) := cc
      have cs' : (W.drewN nq).cell? ⟨w.heap.size + 1, K, none⟩ = some (.float .f64 (at0 sinT K)) := cs
      have J0' := Lib.hid (J0.out.drewN nq)
      have J1' := Lib.hid (J1.out.drewN nq)
      have bw2 := bwx.drewN' nq
      have s2 : w.heap.size + 2 ≤ (W.drewN nq).heap.size := s1
      clear q0 q1 kf2 cc cs J0 J1 bwx s1
      generalize W.drewN nq = W2 at q1' cc' cs' J0' J1' bw2 s2 ⊢
      have hst : turnT (vcs ss) (eigs ss p) (k + 1) = (fadd (turnT (vcs ss) (eigs ss p) k).1 (fmul (at0 (vcs ss) k) (at0 cosT (at0 (eigs ss p) k))), fadd (turnT (vcs ss) (eigs ss p) k).2 (fmul (at0 (vcs ss) k) (at0 sinT (at0 (eigs ss p) k)))) := rfl
      rw [HatV.out, HatK.out, ← HT.out.1, ← HT.out.2] at hst
      have HST := Lib.hid hst
      have hcc : at0 cosT K = at0 cosT K ∧ cn (at0 cosT K) = at0 cosT K := ⟨rfl, by match K, hK8 with | 0, _ => decide +kernel | 1, _ => decide +kernel | 2, _ => decide +kernel | 3, _ => decide +kernel | 4, _ => decide +kernel | 5, _ => decide +kernel | 6, _ => decide +kernel | 7, _ => decide +kernel⟩
      have hcs : at0 sinT K = at0 sinT K ∧ cn (at0 sinT K) = at0 sinT K := ⟨rfl, by match K, hK8 with | 0, _ => decide +kernel | 1, _ => decide +kernel | 2, _ => decide +kernel | 3, _ => decide +kernel | 4, _ => decide +kernel | 5, _ => decide +kernel | 6, _ => decide +kernel | 7, _ => decide +kernel⟩
      have HCC := Lib.hid hcc.2
      have HCS := Lib.hid hcs.2
      clear hst hcc hcs HatV HatK HT
      generalize at0 cosT K = vc at cc' HCC HST
      generalize at0 sinT K = vsn at cs' HCS HST
      rcases ht with ⟨t1, t2⟩ | ⟨t1, t2⟩
      all_goals
        first
          | (have t3 : R + p = M := t2
             have hb : -p ≤ R := by omega
             clear t2)
          | subst t2
        go_wp2_with fail
        refine wp_region_rel (fun wd => ∃ nd, wd = W2.drewN nd) (fun _ _ _ => False) (by kernel_rfl) (by kernel_rfl) (by repeat (first | exact ⟨_, rfl⟩ | refine drew_class _ _ ?_ | refine drewN_class _ _ _ ?_)) ?_
        repeat (first | (refine wpRel_fop _ _ _ _ _ _ _ rfl rfl rfl rfl (drewN_class W2) ?_; intro r2 hr9; go_big_quiet_step (fail); refine wpQuiet_nil ?_) | (refine wpRel_cadd _ _ _ _ _ _ _ _ rfl rfl rfl (drewN_class W2) ?_; intro r3 q3 hr3 hq3; go_big_quiet_step (fail); refine wpQuiet_nil ?_) | (refine wpRel_quiet rfl ?_; go_big_quiet_step (fail); refine wpQuiet_nil ?_))
        refine wpRel_nil ?_
        rintro w3 ⟨m3, rfl⟩
        go_wp2_with fail
        refine ⟨⟨k + 1, r3, q3, by omega, rfl, by go_num, ⟨?_, ?_⟩, J0'.out.drewN _, J1'.out.drewN _, bw2.drewN' _, s2⟩, by simp [intOf]; omega⟩
        · rw [HST.out]
          simp only [fop_mul, HCC.out, ← fadd_cn1 r, *]
        · rw [HST.out]
          simp only [fop_mul, HCS.out, ← fadd_cn1 q, *]
    · have hk' : k = n := by omega
      subst hk'
      clear hlt hk
      go_wp2_with fail
      go_ret
      exact ⟨r, q, rfl, by rw [HT.out.1, length_vcs, Hl.out], by rw [HT.out.2, length_vcs, Hl.out], bw⟩

theorem turn_any (a : Option Addr) (n cap : Nat) (ss : List Smp) (p : Int) (w : World) (hr : SRow w a n ss) :
    Calls Try.prog 31 #[.slice a n cap, .int .i64 p] w (CB (turnS (vcs ss) (eigs ss p) p) w) := by
  unfold turnS
  by_cases h : p < 1 ∨ 315360000000000 < p
  · rw [if_pos h]
    exact turn_none a n cap p w (by omega) hr.2.1
  · rw [if_neg h]
    by_cases h0 : n = 0
    · have : turnT (vcs ss) (eigs ss p) (vcs ss).length = (0, 0) := by rw [length_vcs, hr.1, h0]; rfl
      rw [this]
      exact turn_none a n cap p w (by omega) hr.2.1
    · exact turn_some a n cap ss p w hr (by omega) (by omega) (by omega)

end Go.Proofs.Ytllphokepjekpaa

namespace Go.Proofs.Ytllphokepjekpaa
open Go.Fl Go.Rel Go.RowKit

def RTurnRel (vs ks : List Nat) (n N : Nat) (w : World) (v6 v7 vi : Value) (wr : World) : Prop :=
  ∃ k r q, k ≤ n ∧ v6 = .float .f64 r ∧ v7 = .float .f64 q ∧ vi = .int .i64 (k : Int) ∧ Hid (cn r = (turnT vs ks k).1 ∧ cn q = (turnT vs ks k).2) ∧ Hid (Bk.Is wr N cosA 23) ∧ Hid (Bk.Is wr (N + 1) sinA 23) ∧ Below w.heap.size w wr ∧ N + 2 ≤ wr.heap.size

set_option maxHeartbeats 4000000 in
set_option maxRecDepth 100000 in
theorem refturn_none (a : Option Addr) (n cap : Nat) (p : Int) (w : World) (h : p < 1 ∨ 315360000000000 < p) :
    Calls Try.prog 29 #[.slice a n cap, .int .i64 p] w (FB2 (0, 0) w) := by
  have e0 : cn 0 = 0 := cn_zero
  by_cases h1 : p < 1
  · have d1 : decide (p < 1) = true := decide_eq_true h1
    go_enter Try.func29, Try.ntmps29
    go_wp2
    go_ret2
    exact ⟨0, 0, rfl, e0, e0, Below.refl _ _⟩
  · have d1 : decide (p < 1) = false := decide_eq_false h1
    have h2 : 315360000000000 < p := by omega
    have d2 : decide (p > 315360000000000) = true := decide_eq_true h2
    go_enter Try.func29, Try.ntmps29
    go_wp2
    go_ret2
    exact ⟨0, 0, rfl, e0, e0, Below.refl _ _⟩

set_option maxHeartbeats 4000000 in
set_option maxRecDepth 100000 in
theorem refturn_some (a : Option Addr) (n cap : Nat) (ss : List Smp) (p : Int) (w : World) (hr : SRow w a n ss) (h1 : 1 ≤ p) (h2 : p ≤ 315360000000000) :
    Calls Try.prog 29 #[.slice a n cap, .int .i64 p] w (FB2 (turnT (vcs ss) (eigs ss p) (vcs ss).length) w) := by
  have hl := hr.1
  have hm := hr.2.1
  have hc := hr.2.2.2
  have d1 : decide (p < 1) = false := decide_eq_false (by omega)
  have d2 : decide (p > 315360000000000) = false := decide_eq_false (by omega)
  have Hl := Lib.hid hl
  have HC := Lib.hid hc
  clear hl hc hr
  have hng : ∀ w, (Op.unary UnOp.neg (.float .f64 hB)).run Try.prog w = .ok (.float .f64 hM) w := fun _ => by kernel_rfl
  go_enter Try.func29, Try.ntmps29
  go_wp2_with (go_at_call 63; refine (rhalf_any _).mono ?_; rintro e w' ⟨rfl, rfl⟩)
  go_loopw [6, 7, 11] (RTurnRel (vcs ss) (eigs ss p) n w.heap.size w) (fun _ _ i _ => n - (intOf i).toNat)
  case atStart =>
    refine ⟨0, 0, 0, by omega, rfl, rfl, rfl, ⟨cn_zero, cn_zero⟩, (Bk.Is.made w cosA 23).alloc _, ?_, (((Below.refl _ _).alloc (Nat.le_refl _) _).alloc (by simp) _), by simp⟩
    have := Bk.Is.made (w.alloc (.cells cosA 23)) sinA 23
    rw [World.size_alloc] at this
    exact this
  case round =>
    obtain ⟨k, r, q, hk, rfl, rfl, rfl, HT, HI0, HI1, bw, hsz⟩ := hrel
    by_cases hlt : k < n
    · obtain ⟨b, off, rfl, hcell⟩ := HC.out (by omega)
      obtain ⟨c0, c2, c3⟩ := hcell k hlt
      have c1 : w.cell? ⟨b, off, none⟩ = some (.int .i64 (tS ss 0)) := by simpa using (hcell 0 (by omega)).1
      have hblt : b < w.heap.size := World.block_lt_of_cell? w _ c1
      have k0 : wr.cell? ⟨b, off + k * 3, none⟩ = some (.int .i64 (tS ss k)) := by rw [bw.cell (p := ⟨b, off + k * 3, none⟩) hblt]; exact c0
      have k1 : wr.cell? ⟨b, off + k * 3 + 1, none⟩ = some (.float .f64 (vS ss k)) := by rw [bw.cell (p := ⟨b, off + k * 3 + 1, none⟩) hblt]; exact c2
      have kf : wr.cell? ⟨b, off, none⟩ = some (.int .i64 (tS ss 0)) := by rw [bw.cell (p := ⟨b, off, none⟩) hblt]; exact c1
      have HatV := Lib.hid (at0_vcs ss (i := k) (by rw [Hl.out]; exact hlt))
      have HatK := Lib.hid (at0_eigs ss p (i := k) (by rw [Hl.out]; exact hlt))
      generalize tS ss k = tt at k0 HatK
      generalize vS ss k = vv at k1 HatV
      generalize tS ss 0 = t0 at kf HatK
      clear c0 c2 c3 c1 hcell
      obtain ⟨D, hD⟩ : ∃ D, D = wrap64 (tt - t0) := ⟨_, rfl⟩
      have hD' : wrap64 (tt - t0) = D := hD.symm
      have hDb : -9223372036854775808 ≤ D ∧ D ≤ 9223372036854775807 := by rw [hD]; unfold wrap64; omega
      rw [hD'] at HatK
      clear hD
      have hm1 := Int.emod_nonneg D (show p ≠ 0 by omega)
      have hm2 := Int.emod_lt_of_pos D (show 0 < p by omega)
      obtain ⟨e1, e2, e3⟩ := eig_of hm1 hm2
      have hE : eig D p = 8 * (D % p) / p := rfl
      obtain ⟨K, hK⟩ : ∃ K : Nat, (K : Int) = eig D p := ⟨(eig D p).toNat, by omega⟩
      have hK8 : K < 8 := by omega
      have hei := fun w => eighth_any D p w h1 h2 hDb
      rw [← hK] at HatK hei
      rw [Int.toNat_natCast] at HatK
      have HEI := Lib.hid hei
      clear hE hK e1 e2 e3 hm1 hm2 hDb hei
      have I0 := HI0.out
      have I1 := HI1.out
      have cc : wr.cell? ⟨w.heap.size, K, none⟩ = some (.float .f64 (at0 cosT K)) := (I0.cell K).trans (cosA_get K hK8)
      have cs : wr.cell? ⟨w.heap.size + 1, K, none⟩ = some (.float .f64 (at0 sinT K)) := (I1.cell K).trans (sinA_get K hK8)
      clear I0 I1
      have hst : turnT (vcs ss) (eigs ss p) (k + 1) = (fadd (turnT (vcs ss) (eigs ss p) k).1 (fmul (at0 (vcs ss) k) (at0 cosT (at0 (eigs ss p) k))), fadd (turnT (vcs ss) (eigs ss p) k).2 (fmul (at0 (vcs ss) k) (at0 sinT (at0 (eigs ss p) k)))) := rfl
      rw [HatV.out, HatK.out, ← HT.out.1, ← HT.out.2] at hst
      have HST := Lib.hid hst
      have hcc : at0 cosT K = at0 cosT K ∧ cn (at0 cosT K) = at0 cosT K := ⟨rfl, by match K, hK8 with | 0, _ => decide +kernel | 1, _ => decide +kernel | 2, _ => decide +kernel | 3, _ => decide +kernel | 4, _ => decide +kernel | 5, _ => decide +kernel | 6, _ => decide +kernel | 7, _ => decide +kernel⟩
      have hcs : at0 sinT K = at0 sinT K ∧ cn (at0 sinT K) = at0 sinT K := ⟨rfl, by match K, hK8 with | 0, _ => decide +kernel | 1, _ => decide +kernel | 2, _ => decide +kernel | 3, _ => decide +kernel | 4, _ => decide +kernel | 5, _ => decide +kernel | 6, _ => decide +kernel | 7, _ => decide +kernel⟩
      have HCC := Lib.hid hcc.2
      have HCS := Lib.hid hcs.2
      clear hst hcc hcs HatV HatK HT
      generalize at0 cosT K = vc at cc HCC HST
      generalize at0 sinT K = vsn at cs HCS HST
      go_wp2_with fail
      go_quiet (first | (go_at_call 64; exact quiet_of_eq (HEI.out _)) | (go_at_call 64; exact quiet_of_eq2 (HEI.out _)))
      have k1' : (wr.drewN nq).cell? ⟨b, off + k * 3 + 1, none⟩ = some (.float .f64 vv) := k1
      have cc' : (wr.drewN nq).cell? ⟨w.heap.size, K, none⟩ = some (.float .f64 vc) := cc
      have cs' : (wr.drewN nq).cell? ⟨w.heap.size + 1, K, none⟩ = some (.float .f64 vsn) := cs
      have J0 := Lib.hid (HI0.out.drewN nq)
      have J1 := Lib.hid (HI1.out.drewN nq)
      have bw2 := bw.drewN' nq
      have s2 : w.heap.size + 2 ≤ (wr.drewN nq).heap.size := hsz
      clear k0 k1 kf cc cs HI0 HI1 bw hsz HEI hD'
      generalize wr.drewN nq = W2 at k1' cc' cs' J0 J1 bw2 s2 ⊢
      go_wp2_with fail
      refine wp_region_rel (fun wd => ∃ nd, wd = W2.drewN nd) (fun _ _ _ => False) (by kernel_rfl) (by kernel_rfl) (by repeat (first | exact ⟨_, rfl⟩ | refine drew_class _ _ ?_ | refine drewN_class _ _ _ ?_)) ?_
      repeat (first | (refine wpRel_fop _ _ _ _ _ _ _ rfl rfl rfl rfl (drewN_class W2) ?_; intro r2 hr9; go_big_quiet_step (fail); refine wpQuiet_nil ?_) | (refine wpRel_quiet rfl ?_; go_big_quiet_step (fail); refine wpQuiet_nil ?_))
      refine wpRel_nil ?_
      rintro w3 ⟨m3, rfl⟩
      have R2 := Lib.hid (And.intro ‹cn _ = fop .mul _ _› hr9)
      have k1'' : (W2.drewN m3).cell? ⟨b, off + k * 3 + 1, none⟩ = some (.float .f64 vv) := k1'
      have cs'' : (W2.drewN m3).cell? ⟨w.heap.size + 1, K, none⟩ = some (.float .f64 vsn) := cs'
      have L0 := Lib.hid (J0.out.drewN m3)
      have L1 := Lib.hid (J1.out.drewN m3)
      have bw3 := bw2.drewN' m3
      have s3 : w.heap.size + 2 ≤ (W2.drewN m3).heap.size := s2
      clear k1' cc' cs' J0 J1 bw2 s2 hr9
      generalize W2.drewN m3 = W3 at k1'' cs'' L0 L1 bw3 s3 ⊢
      go_wp2_with fail
      refine wp_region_rel (fun wd => ∃ nd, wd = W3.drewN nd) (fun _ _ _ => False) (by kernel_rfl) (by kernel_rfl) (by repeat (first | exact ⟨_, rfl⟩ | refine drew_class _ _ ?_ | refine drewN_class _ _ _ ?_)) ?_
      repeat (first | (refine wpRel_fop _ _ _ _ _ _ _ rfl rfl rfl rfl (drewN_class W3) ?_; intro q2 hr9; go_big_quiet_step (fail); refine wpQuiet_nil ?_) | (refine wpRel_quiet rfl ?_; go_big_quiet_step (fail); refine wpQuiet_nil ?_))
      refine wpRel_nil ?_
      rintro w4 ⟨m4, rfl⟩
      go_wp2_with fail
      refine ⟨⟨k + 1, r2, q2, by omega, rfl, rfl, by go_num, ⟨?_, ?_⟩, L0.out.drewN _, L1.out.drewN _, bw3.drewN' _, s3⟩, by simp [intOf]; omega⟩
      · rw [HST.out, R2.out.2, R2.out.1, HCC.out]; rfl
      · rw [HST.out]
        simp only [fop_mul, fop_add, HCS.out, *]
    · have hk' : k = n := by omega
      subst hk'
      clear hlt hk
      go_wp2_with fail
      go_ret2
      exact ⟨r, q, rfl, by rw [HT.out.1, length_vcs, Hl.out], by rw [HT.out.2, length_vcs, Hl.out], bw⟩

theorem refturn_any (a : Option Addr) (n cap : Nat) (ss : List Smp) (p : Int) (w : World) (hr : SRow w a n ss) :
    Calls Try.prog 29 #[.slice a n cap, .int .i64 p] w (FB2 (turnS (vcs ss) (eigs ss p) p) w) := by
  unfold turnS
  by_cases h : p < 1 ∨ 315360000000000 < p
  · rw [if_pos h]
    exact refturn_none a n cap p w h
  · rw [if_neg h]
    exact refturn_some a n cap ss p w hr (by omega) (by omega)

end Go.Proofs.Ytllphokepjekpaa
