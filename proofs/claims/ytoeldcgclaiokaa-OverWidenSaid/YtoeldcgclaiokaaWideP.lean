/- Reckoning on never takes away: the plain law. -/
import Derived.Test.YtoeldcgclaiokaaRatE
namespace Go.Proofs.Ytoeldcgclaiokaa
open Go.Fl Go.Rel Go.RowKit Ieee
set_option linter.unusedVariables false
set_option linter.unusedSimpArgs false

theorem fv_46 : isF 4814348001659060224 ∧ fv 4814348001659060224 = 70368744177664 := by unfold isF; decide +kernel
theorem fv_47 : isF 4818851601286430720 ∧ fv 4818851601286430720 = 140737488355328 := by unfold isF; decide +kernel
theorem fv_57 : isF 4863887597560135680 ∧ fv 4863887597560135680 = 144115188075855872 := by unfold isF; decide +kernel

theorem rd_zero {q : Rat} {r : Nat} (h : Rd q r) (hq : q = 0) : isF r ∧ fv r = 0 := by
  obtain ⟨h1, h2, h3⟩ := rd_between h fv_zero.1 fv_zero.1 (by rw [fv_zero.2, hq]; exact Rat.le_refl) (by rw [fv_zero.2, hq]; exact Rat.le_refl)
  rw [fv_zero.2] at h2 h3
  exact ⟨h1, by grind⟩

theorem secF_b0 {z : Int} (h1 : 0 ≤ z) (h2 : z ≤ 18014398509481984) : isF (secF z) ∧ 0 ≤ fv (secF z) ∧ fv (secF z) ≤ 35184372088832 := by
  by_cases h : z = 0
  · subst h
    have hd := div_rd fv_zero.1 fv_th.1 fv_th.2.2
    obtain ⟨a, b⟩ := rd_zero hd (by rw [fv_zero.2, Rat.div_def, Rat.zero_mul])
    have e : secF 0 = fdiv 0 4652007308841189376 := rfl
    rw [e]
    exact ⟨a, by rw [b]; exact Rat.le_refl, by rw [b]; grind⟩
  · obtain ⟨a, b, c⟩ := secF_b (z := z) (by omega) h2
    exact ⟨a, by grind, c⟩
theorem extA_b0 {A H M : Nat} (hA : isF A) (a1 : 0 ≤ fv A) (a2 : fv A ≤ 35184372088832) (hM : isF M) (m1 : 1 / 18014398509481984 ≤ fv M) (m2 : fv M ≤ 35184372088832) :
    isF (extA A H M) ∧ 0 ≤ fv (extA A H M) ∧ fv (extA A H M) ≤ 35184372088832 := by
  unfold extA
  by_cases h : fge A H = true
  · rw [if_pos h]
    have hd := div_rd hM fv_two.1 fv_two.2.2
    rw [fv_two.2.1] at hd
    have := rd_between hd fv_m55.1 fv_45.1 (by rw [fv_m55.2]; grind) (by rw [fv_45.2]; grind)
    rw [fv_m55.2, fv_45.2] at this
    exact ⟨this.1, by grind, this.2.2⟩
  · rw [if_neg h]
    exact ⟨hA, a1, a2⟩

theorem sgn_pos {x : Nat} (h : 0 < fv x) : sgn x = false := by
  cases hs : sgn x with
  | false => rfl
  | true =>
    exfalso
    have : uv x ≤ 0 := by unfold uv; rw [if_pos hs]; omega
    have h0 : uv x ≤ uv 0 := by rw [show uv 0 = 0 by decide +kernel]; exact this
    have := fv_le.2 h0
    rw [fv_zero.2] at this
    grind
theorem sgn_neg {x : Nat} (h : fv x < 0) : sgn x = true := by
  cases hs : sgn x with
  | true => rfl
  | false =>
    exfalso
    have : 0 ≤ uv x := by unfold uv; rw [if_neg (by rw [hs]; simp)]; omega
    have h0 : uv 0 ≤ uv x := by rw [show uv 0 = 0 by decide +kernel]; exact this
    have := fv_le.2 h0
    rw [fv_zero.2] at this
    grind
theorem uv_ne {x : Nat} (h : fv x ≠ 0) : uv x ≠ 0 := by
  intro h0
  apply h
  unfold fv
  rw [h0, Rat.div_def]
  exact Rat.zero_mul _
theorem inf_word : double.word false 9218868437227405312 = pinf := by decide +kernel
theorem read_pinf : double.read pinf = .infinity false := by decide +kernel

/-- The way to the first zero lies ahead. -/
theorem z_ahead {S v G : Nat} (hS : isF S) (hS0 : 0 < fv S) (hv : isF v) (hv0 : 0 ≤ fv v) (hG : isF G) (hG0 : 0 < fv G) :
    (isF (fmul S (fdiv v G)) ∧ 0 ≤ fv (fmul S (fdiv v G))) ∨ fmul S (fdiv v G) = pinf := by
  have hGu : uv G ≠ 0 := uv_ne (by grind)
  have hd := div_rd hv hG hGu
  by_cases h0 : fv v = 0
  · left
    obtain ⟨a, b⟩ := rd_zero hd (by rw [h0, Rat.div_def, Rat.zero_mul])
    obtain ⟨c, d⟩ := rd_zero (mul_rd hS a) (by rw [b, Rat.mul_zero])
    exact ⟨c, by rw [d]; exact Rat.le_refl⟩
  · have hvp : 0 < fv v := by grind
    obtain ⟨mm, nn, aa, bb, -, -, -, -, hw⟩ := div_fin hv hG hGu
    rw [sgn_pos hvp, sgn_pos hG0] at hw
    by_cases hq : isF (fdiv v G)
    · have hq0 : 0 ≤ fv (fdiv v G) := by
        have := hd.ge 0 fv_zero.1 hq (by rw [fv_zero.2, ← Rat.not_lt, Rat.div_lt_iff hG0]; grind)
        rwa [fv_zero.2] at this
      have hm := mul_rd hS hq
      by_cases hz : isF (fmul S (fdiv v G))
      · left
        have := hm.ge 0 fv_zero.1 hz (by rw [fv_zero.2]; exact Rat.mul_nonneg (by grind) hq0)
        rw [fv_zero.2] at this
        exact ⟨hz, this⟩
      · right
        have hsq : sgn (fdiv v G) = false := by
          rw [hw]
          exact sgn_word _ (by have := nrung_top ((2 * (mm * 2 ^ (54 + nn.log2 - mm.log2) / nn) + (mm * 2 ^ (54 + nn.log2 - mm.log2) % nn != 0).toNat) * 2 ^ (aa + K)) (54 + nn.log2 - mm.log2 + 1 + bb); omega)
        have he := mul_fin hS hq
        rw [sgn_pos hS0, hsq] at he
        rw [he] at hz ⊢
        have ht := nrung_top (unitsOf (rung S) * unitsOf (rung (fdiv v G))) K
        rw [isF_word_iff _ ht] at hz
        rw [show nrung (unitsOf (rung S) * unitsOf (rung (fdiv v G))) K = 9218868437227405312 by omega]
        exact inf_word
    · right
      have hqi : fdiv v G = pinf := by
        rw [hw] at hq ⊢
        have ht := nrung_top ((2 * (mm * 2 ^ (54 + nn.log2 - mm.log2) / nn) + (mm * 2 ^ (54 + nn.log2 - mm.log2) % nn != 0).toNat) * 2 ^ (aa + K)) (54 + nn.log2 - mm.log2 + 1 + bb)
        rw [isF_word_iff _ ht] at hq
        rw [show nrung ((2 * (mm * 2 ^ (54 + nn.log2 - mm.log2) / nn) + (mm * 2 ^ (54 + nn.log2 - mm.log2) % nn != 0).toNat) * 2 ^ (aa + K)) (54 + nn.log2 - mm.log2 + 1 + bb) = 9218868437227405312 by omega]
        exact inf_word
      rw [hqi]
      obtain ⟨ms, js, hs1, hs2⟩ := read_fin hS
      have hm0 : ms ≠ 0 := by
        intro e
        have e1 : unitsOf (rung S) = 0 := by rw [← hs2, e]; simp
        have e2 : uv S = 0 := by unfold uv; rw [e1]; split <;> rfl
        exact uv_ne (show fv S ≠ 0 by grind) e2
      unfold fmul Format.mul
      rw [hs1, read_pinf, sgn_pos hS0]
      have : Datum.product (.number false ms (-1074 + (js : Int))) (.infinity false) = some (.infinity false) := by
        unfold Datum.product
        simp [hm0]
      rw [this, getD_some]
      decide +kernel

theorem extM_b {a S v G : Nat} {c : Bool} (ha : isF a) (a1 : 0 < fv a) (a2 : fv a ≤ 35184372088832) (hS : isF S) (hS0 : 0 < fv S) (hz : c = true → isF v ∧ 0 ≤ fv v ∧ isF G ∧ 0 < fv G) :
    isF (extM c a S v G) ∧ 0 ≤ fv (extM c a S v G) ∧ fv (extM c a S v G) ≤ 35184372088832 := by
  unfold extM
  by_cases hc : c = true
  · rw [if_pos hc]
    obtain ⟨hv, hv0, hG, hG0⟩ := hz hc
    rcases z_ahead hS hS0 hv hv0 hG hG0 with ⟨z1, z2⟩ | hz
    · obtain ⟨o1, o2, o3⟩ := ford_fv ha z1
      unfold fmin
      cases ho : ford a (fmul S (fdiv v G)) with
      | none => rw [order_fin ha z1] at ho; cases ho
      | some o =>
        rw [ho] at o1 o2 o3
        cases o with
        | lt => exact ⟨ha, by grind, a2⟩
        | gt =>
          have : fv (fmul S (fdiv v G)) < fv a := by simpa using o2
          exact ⟨z1, z2, by grind⟩
        | eq =>
          have : fv a = fv (fmul S (fdiv v G)) := by simpa using o3
          show isF (if _ then _ else _) ∧ _
          split
          · exact ⟨ha, by grind, a2⟩
          · exact ⟨z1, z2, by grind⟩
    · rw [hz]
      have h1 : fmin a pinf = a := by
        unfold fmin
        rw [ford_pl (isF_notN ha) (by decide +kernel)]
        have : pl a < pl pinf := by
          rw [pl_fin ha, show pl pinf = 9218868437227405312 by decide +kernel]
          unfold isF at ha
          split <;> omega
        rw [Std.compare_eq_lt.2 this]
      rw [h1]
      exact ⟨ha, by grind, a2⟩
  · rw [if_neg hc]
    exact ⟨ha, by grind, a2⟩

/-- How much the seen growth is stretched. -/
theorem f_b {S A B : Nat} (hS : isF S) (s1 : 1 / 1024 ≤ fv S) (s2 : fv S ≤ 35184372088832) (hA : isF A) (a1 : 0 ≤ fv A) (a2 : fv A ≤ 35184372088832) (hB : isF B) (b1 : 0 ≤ fv B) (b2 : fv B ≤ 35184372088832) :
    isF (fdiv (fadd (fadd S A) B) S) ∧ 1 ≤ fv (fdiv (fadd (fadd S A) B) S) := by
  obtain ⟨x1, x2, x3⟩ := rd_between (add_rd hS hA) hS fv_46.1 (by grind) (by rw [fv_46.2]; grind)
  rw [fv_46.2] at x3
  obtain ⟨y1, y2, y3⟩ := rd_between (add_rd x1 hB) hS fv_47.1 (by grind) (by rw [fv_47.2]; grind)
  rw [fv_47.2] at y3
  have hp : (0 : Rat) < fv S := by grind
  have hd := div_rd y1 hS (uv_ne (by grind))
  have q1 : (1 : Rat) ≤ fv (fadd (fadd S A) B) / fv S := by
    rw [← Rat.not_lt, Rat.div_lt_iff hp]
    grind
  have q2 : fv (fadd (fadd S A) B) / fv S ≤ 144115188075855872 := by
    rw [← Rat.not_lt, Rat.lt_div_iff hp]
    grind
  obtain ⟨z1, z2, _⟩ := rd_between hd fv_one.1 fv_57.1 (by rw [fv_one.2]; exact q1) (by rw [fv_57.2]; exact q2)
  rw [fv_one.2] at z2
  exact ⟨z1, z2⟩

def mxF : Nat := 9218868437227405311
def mnF : Nat := 18442240474082181119

theorem widen {G f : Nat} (hf : isF f) (f1 : 1 ≤ fv f) (hG : isF G) :
    ((ford G 0 == some .gt) = true → (ford (fmul G f) G == some .gt || ford (fmul G f) G == some .eq) = true) ∧ ((ford G 0 == some .eq) = true → (ford (fmul G f) 0 == some .eq) = true) ∧
    ((ford G 0 == some .lt) = true → (ford (fmul G f) G == some .lt || ford (fmul G f) G == some .eq) = true) := by
  obtain ⟨o1, o2, o3⟩ := ford_fv hG fv_zero.1
  rw [fv_zero.2] at o1 o2 o3
  have hm := mul_rd hG hf
  have hsf : sgn f = false := sgn_pos (by grind)
  have hw := mul_fin hG hf
  rw [hsf] at hw
  have ht := nrung_top (unitsOf (rung G) * unitsOf (rung f)) K
  refine ⟨fun h => ?_, fun h => ?_, fun h => ?_⟩
  · rw [o2] at h
    have h0 : 0 < fv G := of_decide_eq_true h
    by_cases hv : isF (fmul G f)
    · have := hm.ge G hG hv (by have := Rat.mul_le_mul_of_nonneg_left f1 (by grind : (0 : Rat) ≤ fv G); grind)
      obtain ⟨p1, p2, p3⟩ := ford_fv hv hG
      rw [p2, p3, Bool.or_eq_true, decide_eq_true_eq, decide_eq_true_eq]
      grind
    · have hn : isN (fmul G f) = false := hm.notN
      rw [ford_pl hn (isF_notN hG)]
      have hp : pl G < pl (fmul G f) := by
        rw [hw] at hv ⊢
        rw [isF_word_iff _ ht] at hv
        rw [pl_word _ ht, sgn_pos h0, pl_fin hG]
        unfold isF at hG
        simp
        split <;> omega
      rw [Std.compare_eq_gt.2 hp]; rfl
  · rw [o3] at h
    have h0 : fv G = 0 := of_decide_eq_true h
    obtain ⟨a, b⟩ := rd_zero hm (by rw [h0, Rat.zero_mul])
    obtain ⟨p1, p2, p3⟩ := ford_fv a fv_zero.1
    rw [p3, fv_zero.2, b]; rfl
  · rw [o1] at h
    have h0 : fv G < 0 := of_decide_eq_true h
    by_cases hv : isF (fmul G f)
    · have := hm.le G hG hv (by have := Rat.mul_le_mul_of_nonneg_left f1 (by grind : (0 : Rat) ≤ -fv G); grind)
      obtain ⟨p1, p2, p3⟩ := ford_fv hv hG
      rw [p1, p3, Bool.or_eq_true, decide_eq_true_eq, decide_eq_true_eq]
      grind
    · have hn : isN (fmul G f) = false := hm.notN
      rw [ford_pl hn (isF_notN hG)]
      have hp : pl (fmul G f) < pl G := by
        rw [hw] at hv ⊢
        rw [isF_word_iff _ ht] at hv
        rw [pl_word _ ht, sgn_neg h0, pl_fin hG]
        unfold isF at hG
        simp
        split <;> omega
      rw [Std.compare_eq_lt.2 hp]; rfl

theorem read_inf {x : Nat} (hn : isN x = false) (hf : ¬ isF x) : double.read x = .infinity (sgn x) := by
  rw [isN_iff] at hn
  have h1 := of_decide_eq_false hn
  unfold isF at hf
  have h2 : rung x = 9218868437227405312 := by omega
  unfold Format.read sgn
  rw [sw_eq, binade_eq, infRung_eq]
  unfold rung at h2
  dsimp only
  rw [h2]
  rfl

theorem gC_low {vs : List Nat} {n : Nat} {c : Bool} (hv : double.read (at0 vs 0) = .infinity false) : Low (gC vs n c) := by
  unfold gC
  split <;> exact low_gK hv _

/-- What over.Extrapolate answers is never nearer to nothing than what was seen to grow. -/
theorem wide_plain {ss : List Smp} {m : Nat} {F T N : Int} (hm : m + 2 ≤ 17592186044416) (hs : sndB F T N ss (m + 2) = true) (c : Bool) (G V : Nat) (hGe : G = gC (vcs ss) (m + 2) c) (hVe : V = extC (vcs ss) (tS ss) m F T c false) :
    ((ford G 0 == some .gt) = true → (ford G mxF == some .lt || ford G mxF == some .eq) = true → (ford V G == some .gt || ford V G == some .eq) = true) ∧ ((ford G 0 == some .eq) = true → (ford V 0 == some .eq) = true) ∧
    ((ford G 0 == some .lt) = true → (ford G mnF == some .gt || ford G mnF == some .eq) = true → (ford V G == some .lt || ford V G == some .eq) = true) := by
  by_cases hG : isF G
  · obtain ⟨d1, d2, d3, d4, d5, d6⟩ := snd_facts hs
    obtain ⟨s1, s2, s3⟩ := secF_b d3 d4
    obtain ⟨a1, a2, a3⟩ := secF_b d1 d2
    obtain ⟨b1, b2, b3⟩ := secF_b0 d5 d6
    obtain ⟨m1, m2, m3⟩ := mean_b s1 s2 s3 (show 1 ≤ m + 1 by omega) (by omega)
    obtain ⟨x1, x2, x3⟩ := extA_b (H := fmul (fdiv (secF (tS ss (m + 1) - tS ss 0)) (nfl (m + 1))) elev) a1 a2 a3 m1 m2 m3
    obtain ⟨y1, y2, y3⟩ := extA_b0 (H := fmul (fdiv (secF (tS ss (m + 1) - tS ss 0)) (nfl (m + 1))) elev) b1 b2 b3 m1 m2 m3
    obtain ⟨z1, z2, z3⟩ := extM_b (c := extG c G (at0 (vcs ss) 0)) (S := secF (tS ss (m + 1) - tS ss 0)) (v := at0 (vcs ss) 0) (G := G) x1 (by grind) x3 s1 (by grind) (fun hc => by
      unfold extG at hc
      rw [Bool.and_eq_true, Bool.and_eq_true] at hc
      obtain ⟨⟨hcc, hg⟩, hv⟩ := hc
      have hG0 : 0 < fv G := by
        rw [(ford_fv hG fv_zero.1).2.1, fv_zero.2] at hg
        exact of_decide_eq_true hg
      have hvn : isN (at0 (vcs ss) 0) = false := by
        cases hn : isN (at0 (vcs ss) 0) with
        | false => rfl
        | true =>
          unfold fge at hv
          rw [ford_N1 0 hn] at hv
          cases hv
      have hvf : isF (at0 (vcs ss) 0) := by
        refine Classical.byContradiction fun hnf => ?_
        have hr := read_inf hvn hnf
        cases hsg : sgn (at0 (vcs ss) 0) with
        | false =>
          rw [hsg] at hr
          have hl : Low G := by rw [hGe]; exact gC_low hr
          rw [low_not hl] at hg
          cases hg
        | true =>
          rw [hsg] at hr
          have h0 : double.read 0 = .number false 0 (-1074) := by decide +kernel
          unfold fge ford Format.order at hv
          rw [hr, h0] at hv
          simp [Datum.order] at hv
      refine ⟨hvf, ?_, hG, hG0⟩
      unfold fge at hv
      obtain ⟨-, o2, o3⟩ := ford_fv hvf fv_zero.1
      rw [o2, o3, fv_zero.2, Bool.or_eq_true, decide_eq_true_eq, decide_eq_true_eq] at hv
      grind)
    obtain ⟨f1, f2⟩ := f_b s1 s2 s3 z1 z2 z3 y1 y2 y3
    have hV : V = fmul G (fdiv (fadd (fadd (secF (tS ss (m + 1) - tS ss 0)) (extM (extG c G (at0 (vcs ss) 0)) (extA (secF (tS ss 0 - F)) (fmul (fdiv (secF (tS ss (m + 1) - tS ss 0)) (nfl (m + 1))) elev) (fdiv (secF (tS ss (m + 1) - tS ss 0)) (nfl (m + 1)))) (secF (tS ss (m + 1) - tS ss 0)) (at0 (vcs ss) 0) G)) (extA (secF (T - tS ss (m + 1))) (fmul (fdiv (secF (tS ss (m + 1) - tS ss 0)) (nfl (m + 1))) elev) (fdiv (secF (tS ss (m + 1) - tS ss 0)) (nfl (m + 1))))) (secF (tS ss (m + 1) - tS ss 0))) := by
      rw [hVe]
      unfold extC extF
      rw [w64_small (by omega) d2, w64_small (by omega) d4, w64_small d5 d6, ← hGe]
      rfl
    obtain ⟨w1', w2, w3⟩ := widen f1 f2 hG
    rw [← hV] at w1' w2 w3
    exact ⟨fun h _ => w1' h, w2, fun h _ => w3 h⟩
  · have h0 : double.read 0 = .number false 0 (-1074) := by decide +kernel
    obtain ⟨p1, q1, hx, -⟩ := read_fin (x := mxF) (by unfold isF; decide +kernel)
    obtain ⟨p2, q2, hy, -⟩ := read_fin (x := mnF) (by unfold isF; decide +kernel)
    cases hn : isN G with
    | true =>
      have e : ∀ y, ford G y = none := fun y => ford_N1 y hn
      rw [e 0]
      exact ⟨fun h => (by cases h), fun h => (by cases h), fun h => (by cases h)⟩
    | false =>
      have hr := read_inf hn hG
      cases hsg : sgn G with
      | false =>
        rw [hsg] at hr
        have e1 : ford G mxF = some .gt := by unfold ford Format.order; rw [hr, hx]; rfl
        have e2 : ford G 0 = some .gt := by unfold ford Format.order; rw [hr, h0]; rfl
        rw [e1, e2]
        exact ⟨fun _ h => (by cases h), fun h => (by cases h), fun h => (by cases h)⟩
      | true =>
        rw [hsg] at hr
        have e1 : ford G mnF = some .lt := by unfold ford Format.order; rw [hr, hy]; rfl
        have e2 : ford G 0 = some .lt := by unfold ford Format.order; rw [hr, h0]; rfl
        rw [e1, e2]
        exact ⟨fun h => (by cases h), fun h => (by cases h), fun _ h => (by cases h)⟩
end Go.Proofs.Ytoeldcgclaiokaa
