/- Turns: tables, eighths, sums of complex numbers as two sums. -/
import Derived.Test.YtllphokepjekpaaLineS
import Derived.Test.YtllphokepjekpaaArith
namespace Go.Fl
open Go.Rel

section
variable {P : Program} {ops : Array Oper} {a : Act} {rest : List Oper}

/-- '+' on complex numbers: part by part, up to which NaN is drawn. -/
theorem run_cadd (w : World) (t : TypeId) (x y u v : Nat) :
    ∃ r q n, (binOp .add t (.complex .f64 x y) (.complex .f64 u v)).run P w = .ok (.complex .f64 r q) (w.drewN n) ∧ cn r = fadd x u ∧ cn q = fadd y v := by
  obtain ⟨r, n, hr, hc⟩ := run_fop (P := P) w .add (.inl rfl) t x u
  obtain ⟨q, m, hq, hd⟩ := run_fop (P := P) (w.drewN n) .add (.inl rfl) t y v
  refine ⟨r, q, n + m, ?_, hc, hd⟩
  have e1 : (Op.Complex.arith .add .f64 x u).run P w = .ok r (w.drewN n) := by
    have h : (Op.floatArith .add .f64 x u).run P w = .ok (.float .f64 r) (w.drewN n) := by simpa [binOp] using hr
    simp [Op.Complex.arith, h]
  have e2 : (Op.Complex.arith .add .f64 y v).run P (w.drewN n) = .ok q ((w.drewN n).drewN m) := by
    have h : (Op.floatArith .add .f64 y v).run P (w.drewN n) = .ok (.float .f64 q) ((w.drewN n).drewN m) := by simpa [binOp] using hq
    simp [Op.Complex.arith, h]
  simp [binOp, Op.complexOp, e1, e2, World.drewN_drewN]

variable {C : World → Prop} {Rc : FuncId → Array Value → Value → Prop} {Q' : Act → Prop}

theorem wpRel_cadd {dst : Option Tmp} {ty : TypeId} {pos : String} {after : Array Edge} {guard : Option (Nat × Bool)} (t t' : TypeId) (x y : Operand) (p q u v : Nat)
    (hg : Region.wanted { dst, op := .binOp .add t x y t', type := ty, pos, after, guard } (yielded ops a.tmps) = true)
    (hx : a.eval x = .complex .f64 p q) (hy : a.eval y = .complex .f64 u v) (hC : ∀ w n, C w → C (w.drewN n))
    (h : ∀ r s, cn r = fadd p u → cn s = fadd q v → wpQuiet P ops C (fun a' => wpRel P ops C Rc Q' rest a') [{ dst, op := .move (.const (.complex .f64 r s)), type := ty, pos, after := #[], guard := none }] a) :
    wpRel P ops C Rc Q' ({ dst, op := .binOp .add t x y t', type := ty, pos, after, guard } :: rest) a := by
  show relAt P ops C Rc _ a _
  unfold relAt
  rw [if_pos hg]
  intro w hw
  obtain ⟨r, s, n, hr, hc, hd⟩ := run_cadd (P := P) w t p q u v
  have : (execOp a.eval { dst, op := .binOp .add t x y t', type := ty, pos, after, guard }).run P w = .ok (.value (.complex .f64 r s)) (w.drewN n) := by
    simp [execOp, hx, hy, eqGuard, hr]
  rw [this]
  exact ⟨hC w n hw, fun v' hv => by cases hv; exact wpRel_laid w hw (h r s hc hd)⟩
end

theorem fadd_cn1 (x y : Nat) : fadd (cn x) (cn y) = fadd x y := fop_cn .add x y

/-- Which eighth of the period. -/
def eig (d p : Int) : Int := 8 * (d % p) / p

theorem tmod_or (d p : Int) (hp : 0 < p) : (d.tmod p < 0 ∧ d.tmod p + p = d % p) ∨ (0 ≤ d.tmod p ∧ d.tmod p = d % p) := by
  have h1 := Int.emod_nonneg d (show p ≠ 0 by omega)
  have h2 := Int.emod_lt_of_pos d hp
  rw [Int.tmod_eq_emod]
  split
  · right; omega
  · left; omega

theorem eig_of {r p : Int} (h0 : 0 ≤ r) (h1 : r < p) : (8 * r).tdiv p = 8 * r / p ∧ 0 ≤ 8 * r / p ∧ 8 * r / p < 8 := by
  have hp : 0 < p := by omega
  refine ⟨Int.tdiv_eq_ediv_of_nonneg (by omega), Int.ediv_nonneg (by omega) (by omega), ?_⟩
  exact Int.ediv_lt_of_lt_mul hp (by omega)

def hB : Nat := 4604544271217802189
def hM : Nat := 13827916308072577997
def one' : Nat := 4607182418800017408
def oneM : Nat := 13830554455654793216
def cosT : List Nat := [one', hB, 0, hM, oneM, hM, 0, hB]
def sinT : List Nat := [0, hB, one', hB, 0, hM, oneM, hM]

end Go.Fl
namespace Go.Proofs.Ytllphokepjekpaa
open Go.Fl Go.Rel Go.RowKit

def cosA : Array Value := #[.float .f64 one', .float .f64 hB, .float .f64 0, .float .f64 hM, .float .f64 oneM, .float .f64 hM, .float .f64 0, .float .f64 hB]
def sinA : Array Value := #[.float .f64 0, .float .f64 hB, .float .f64 one', .float .f64 hB, .float .f64 0, .float .f64 hM, .float .f64 oneM, .float .f64 hM]

theorem cosA_get (k : Nat) (h : k < 8) : cosA[k]? = some (.float .f64 (at0 cosT k)) := by
  match k, h with
  | 0, _ => rfl | 1, _ => rfl | 2, _ => rfl | 3, _ => rfl | 4, _ => rfl | 5, _ => rfl | 6, _ => rfl | 7, _ => rfl
theorem sinA_get (k : Nat) (h : k < 8) : sinA[k]? = some (.float .f64 (at0 sinT k)) := by
  match k, h with
  | 0, _ => rfl | 1, _ => rfl | 2, _ => rfl | 3, _ => rfl | 4, _ => rfl | 5, _ => rfl | 6, _ => rfl | 7, _ => rfl

/-- The sum of the turned values, both parts. -/
def turnT (vs : List Nat) (ks : List Nat) : Nat → Nat × Nat
  | 0 => (0, 0)
  | k + 1 => (fadd (turnT vs ks k).1 (fmul (at0 vs k) (at0 cosT (at0 ks k))), fadd (turnT vs ks k).2 (fmul (at0 vs k) (at0 sinT (at0 ks k))))

/-- The samples' eighths. -/
def eigs (ss : List Smp) (p : Int) : List Nat := ss.map fun s => (eig (wrap64 (s.t - tS ss 0)) p).toNat
theorem at0_eigs (ss : List Smp) (p : Int) {i : Nat} (h : i < ss.length) : at0 (eigs ss p) i = (eig (wrap64 (tS ss i - tS ss 0)) p).toNat := by
  simp [eigs, at0, tS, sAt, List.getD, h]
theorem length_eigs (ss : List Smp) (p : Int) : (eigs ss p).length = ss.length := by simp [eigs]

def turnS (vs ks : List Nat) (p : Int) : Nat × Nat := if p < 1 ∨ 315360000000000 < p then (0, 0) else turnT vs ks vs.length

theorem half_any (w : World) : Calls Try.prog 65 #[] w fun e w' => e = .returned (.float .f64 hB) ∧ w = w' := by
  have hr := frombits_run 4604544271217802189 w
  go_enter Try.func65, Try.ntmps65
  go_wp2_with (simp only [hr])
  go_ret
  exact ⟨rfl, rfl⟩

theorem rbits_any (n : Int) (w : World) : Calls Try.prog 78 #[.int .u64 n] w fun e w' => e = .returned (.float .f64 n.toNat) ∧ w = w' := by
  have hr := frombits_run n w
  go_enter Try.func78, Try.ntmps78
  go_wp2_with (simp only [hr])
  go_ret
  exact ⟨rfl, rfl⟩

theorem rhalf_any (w : World) : Calls Try.prog 63 #[] w fun e w' => e = .returned (.float .f64 hB) ∧ w = w' := by
  go_enter Try.func63, Try.ntmps63
  go_wp2_with (go_at_call 78; refine (rbits_any _ _).mono ?_; rintro e w' ⟨rfl, rfl⟩)
  go_ret
  exact ⟨rfl, rfl⟩

set_option maxHeartbeats 1000000 in
theorem eighth_any (d p : Int) (w : World) (h1 : 1 ≤ p) (h2 : p ≤ 315360000000000) (_hd : -9223372036854775808 ≤ d ∧ d ≤ 9223372036854775807) :
    Calls Try.prog 64 #[.int .i64 d, .int .i64 p] w fun e w' => e = .returned (.int .i64 (eig d p)) ∧ w = w' := by
  have ht := tmod_or d p (by omega)
  have hm1 := Int.emod_nonneg d (show p ≠ 0 by omega)
  have hm2 := Int.emod_lt_of_pos d (show 0 < p by omega)
  obtain ⟨e1, e2, e3⟩ := eig_of hm1 hm2
  obtain ⟨R, hR⟩ : ∃ R, R = d.tmod p := ⟨_, rfl⟩
  obtain ⟨M, hM⟩ : ∃ M, M = d % p := ⟨_, rfl⟩
  have hE : eig d p = 8 * M / p := by rw [eig, hM]
  rw [hE]
  rw [← hM] at e1 e2 e3 hm1 hm2
  rw [← hR, ← hM] at ht
  obtain ⟨K, hK⟩ : ∃ K, K = 8 * M / p := ⟨_, rfl⟩
  rw [← hK] at e1 e2 e3 ⊢
  have hR' : d.tmod p = R := hR.symm
  have hpz : ¬ p = 0 := by omega
  clear hM hE hR hK
  rcases ht with ⟨t1, t2⟩ | ⟨t1, t2⟩
  · have t3 : R + p = M := t2
    have hb : -p ≤ R := by omega
    clear t2
    go_enter Try.func64, Try.ntmps64
    go_wp2
    go_ret
    exact ⟨rfl, rfl⟩
  · subst t2
    go_enter Try.func64, Try.ntmps64
    go_wp2
    go_ret
    exact ⟨rfl, rfl⟩

end Go.Proofs.Ytllphokepjekpaa
