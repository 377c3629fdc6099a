/- Bounds of what over.Extrapolate reckons with; the reference's lesser of two is the builtin's. -/
import Derived.Test.YtoeldcgclaiokaaGreatAliveB
namespace Go.Proofs.YtoeldcgclaiokaaGreat
open Go.Fl Go.Rel Go.RowKit Ieee
set_option linter.unusedVariables false
set_option linter.unusedSimpArgs false

theorem wz_rd (z : Int) : Rd (z : Rat) (wz z) := by
  rw [← roundU_whole false z (fun _ => rfl)]
  refine roundU_rd _ _ _ ?_
  rw [Rat.intCast_mul]; rfl

/-- Words of powers of two. -/
theorem fv_m10 : isF 4562146422526312448 ∧ fv 4562146422526312448 = 1 / 1024 := by unfold isF; decide +kernel
theorem fv_45 : isF 4809844402031689728 ∧ fv 4809844402031689728 = 35184372088832 := by unfold isF; decide +kernel
theorem fv_54 : isF 4850376798678024192 ∧ fv 4850376798678024192 = 18014398509481984 := by unfold isF; decide +kernel
theorem fv_m54 : isF 4363988038922010624 ∧ fv 4363988038922010624 = 1 / 18014398509481984 := by unfold isF; decide +kernel
theorem fv_m55 : isF 4359484439294640128 ∧ fv 4359484439294640128 = 1 / 36028797018963968 := by unfold isF; decide +kernel
theorem fv_th : isF 4652007308841189376 ∧ fv 4652007308841189376 = 1000 ∧ uv 4652007308841189376 ≠ 0 := by unfold isF; decide +kernel
theorem fv_two : isF two' ∧ fv two' = 2 ∧ uv two' ≠ 0 := by unfold isF; decide +kernel

/-- Between two words' numbers. -/
theorem rd_between {q : Rat} {r f g : Nat} (h : Rd q r) (hf : isF f) (hg : isF g) (h1 : fv f ≤ q) (h2 : q ≤ fv g) : isF r ∧ fv f ≤ fv r ∧ fv r ≤ fv g := by
  have hr := h.fin f g hf hg h1 h2
  exact ⟨hr, h.ge f hf hr h1, h.le g hg hr h2⟩

theorem secF_b {z : Int} (h1 : 1 ≤ z) (h2 : z ≤ 18014398509481984) : isF (secF z) ∧ 1 / 1024 ≤ fv (secF z) ∧ fv (secF z) ≤ 35184372088832 := by
  have hz1 : (1 : Rat) ≤ (z : Rat) := Rat.intCast_le_intCast.2 h1
  have hz2 : (z : Rat) ≤ 18014398509481984 := Rat.intCast_le_intCast.2 h2
  obtain ⟨x1, x2, x3⟩ := rd_between (wz_rd z) fv_one.1 fv_54.1 (by rw [fv_one.2]; exact hz1) (by rw [fv_54.2]; exact hz2)
  rw [fv_one.2] at x2
  rw [fv_54.2] at x3
  have hd := div_rd x1 fv_th.1 fv_th.2.2
  rw [fv_th.2.1] at hd
  have := rd_between hd fv_m10.1 fv_45.1 (by rw [fv_m10.2]; grind) (by rw [fv_45.2]; grind)
  rw [fv_m10.2, fv_45.2] at this
  exact this

theorem nfl_b {n : Nat} (h1 : 1 ≤ n) (h2 : n ≤ 17592186044416) : isF (nfl n) ∧ fv (nfl n) = (n : Int) ∧ uv (nfl n) ≠ 0 := by
  have h := fv_wz (z := (n : Int)) (by omega)
  refine ⟨h.1, h.2, fun h0 => ?_⟩
  have h3 : fv (nfl n) = ((n : Int) : Rat) := h.2
  unfold fv at h3
  rw [h0] at h3
  have h4 : ((n : Int) : Rat) = 0 := by rw [← h3, Rat.div_def]; exact Rat.zero_mul _
  have : (n : Int) = 0 := Rat.intCast_inj.1 h4
  omega

theorem mean_b {s : Nat} {n : Nat} (hs : isF s) (s1 : 1 / 1024 ≤ fv s) (s2 : fv s ≤ 35184372088832) (h1 : 1 ≤ n) (h2 : n ≤ 17592186044416) : isF (fdiv s (nfl n)) ∧ 1 / 18014398509481984 ≤ fv (fdiv s (nfl n)) ∧ fv (fdiv s (nfl n)) ≤ 35184372088832 := by
  obtain ⟨n1, n2, n3⟩ := nfl_b h1 h2
  have hd := div_rd hs n1 n3
  rw [n2] at hd
  have k1 : (1 : Rat) ≤ ((n : Int) : Rat) := Rat.intCast_le_intCast.2 (show (1 : Int) ≤ n by omega)
  have k2 : ((n : Int) : Rat) ≤ 17592186044416 := Rat.intCast_le_intCast.2 (show (n : Int) ≤ 17592186044416 by omega)
  have kp : (0 : Rat) < ((n : Int) : Rat) := by grind
  have q1 : (1 : Rat) / 18014398509481984 ≤ fv s / ((n : Int) : Rat) := by
    rw [← Rat.not_lt, Rat.div_lt_iff kp]
    grind
  have q2 : fv s / ((n : Int) : Rat) ≤ 35184372088832 := by
    rw [← Rat.not_lt, Rat.lt_div_iff kp]
    grind
  have := rd_between hd fv_m54.1 fv_45.1 (by rw [fv_m54.2]; exact q1) (by rw [fv_45.2]; exact q2)
  rw [fv_m54.2, fv_45.2] at this
  exact this

theorem extA_b {A H M : Nat} (hA : isF A) (a1 : 1 / 1024 ≤ fv A) (a2 : fv A ≤ 35184372088832) (hM : isF M) (m1 : 1 / 18014398509481984 ≤ fv M) (m2 : fv M ≤ 35184372088832) :
    isF (extA A H M) ∧ 1 / 36028797018963968 ≤ fv (extA A H M) ∧ fv (extA A H M) ≤ 35184372088832 := by
  unfold extA
  by_cases h : fge A H = true
  · rw [if_pos h]
    have hd := div_rd hM fv_two.1 fv_two.2.2
    rw [fv_two.2.1] at hd
    have := rd_between hd fv_m55.1 fv_45.1 (by rw [fv_m55.2]; grind) (by rw [fv_45.2]; grind)
    rw [fv_m55.2, fv_45.2] at this
    exact this
  · rw [if_neg h]
    exact ⟨hA, by grind, a2⟩

/-! Words that are no numbers. -/
theorem rd_inf (s : Bool) : double.read (double.write (.infinity s)) = .infinity s := by cases s <;> decide +kernel
theorem isN_read {x : Nat} (h : isN x = true) : ∃ s f, double.read x = .nan s f := by
  unfold isN at h
  cases hx : double.read x with
  | nan s f => exact ⟨s, f, rfl⟩
  | number s m e => rw [hx] at h; cases h
  | infinity s => rw [hx] at h; cases h

/-- NaN, or infinity below. -/
def Low (g : Nat) : Prop := isN g = true ∨ double.read g = .infinity true
theorem getD_none : ((none : Option Datum).map double.write).getD nanc = nanc := rfl
theorem getD_some (d : Datum) : ((some d).map double.write).getD nanc = double.write d := rfl
theorem low_none {o : Option Datum} (h : o = none) : Low ((o.map double.write).getD nanc) := by rw [h, getD_none]; exact .inl isN_nanc
theorem low_some {o : Option Datum} (h : o = some (.infinity true)) : Low ((o.map double.write).getD nanc) := by rw [h, getD_some]; exact .inr (rd_inf true)
theorem low_sub {x v : Nat} (hv : double.read v = .infinity false) : Low (fsub x v) := by
  unfold fsub Format.sub
  rw [hv]
  cases double.read x with
  | nan s f => exact low_none rfl
  | number s m e => exact low_some rfl
  | infinity s =>
    cases s with
    | true => exact low_some rfl
    | false => exact low_none rfl
theorem low_add {g x : Nat} (hg : Low g) : Low (fadd g x) := by
  unfold fadd Format.add
  rcases hg with h | h
  · obtain ⟨s, f, h⟩ := isN_read h
    rw [h]
    cases double.read x <;> exact low_none rfl
  · rw [h]
    cases double.read x with
    | nan s f => exact low_none rfl
    | number s m e => exact low_some rfl
    | infinity s =>
      cases s with
      | true => exact low_some rfl
      | false => exact low_none rfl
theorem low_gK {vs : List Nat} {n : Nat} (hv : double.read (at0 vs 0) = .infinity false) : ∀ k, Low (gK vs n k)
  | 0 => low_sub hv
  | k + 1 => by
    unfold gK
    split
    · exact low_add (low_gK hv k)
    · exact low_gK hv k
theorem low_not {g : Nat} (h : Low g) : (ford g 0 == some .gt) = false := by
  unfold ford Format.order
  rcases h with h | h
  · obtain ⟨s, f, h⟩ := isN_read h
    rw [h]; rfl
  · rw [h]
    have : ∃ s m e, double.read 0 = .number s m e := ⟨_, _, _, (show double.read 0 = .number false 0 (-1074) by decide +kernel)⟩
    obtain ⟨s, m, e, h0⟩ := this
    rw [h0]; rfl

theorem write_some {d : Option Datum} {x : Datum} (h : d = some x) (hx : x.isNaN = false) : isN ((d.map double.write).getD nanc) = false := by
  rw [h]; exact write_not_nan x hx

/-- The way to the first zero is no NaN. -/
theorem z_notN {S v g : Nat} (hS : isF S) (hS0 : 0 < fv S) (hv : fge v 0 = true) (hvi : double.read v ≠ .infinity false) (hg : (ford g 0 == some .gt) = true) : isN (fmul S (fdiv v g)) = false := by
  have h0 : double.read 0 = .number false 0 (-1074) := by decide +kernel
  obtain ⟨sv, mv, ev, hrv⟩ : ∃ s m e, double.read v = .number s m e := by
    cases hx : double.read v with
    | number s m e => exact ⟨s, m, e, rfl⟩
    | nan s f => unfold fge ford Format.order at hv; rw [hx] at hv; simp [Datum.order] at hv
    | infinity s =>
      cases s with
      | false => exact absurd hx hvi
      | true => unfold fge ford Format.order at hv; rw [hx, h0] at hv; simp [Datum.order] at hv
  have hq : isN (fdiv v g) = false := by
    unfold fdiv Format.div
    rw [hrv]
    cases hx : double.read g with
    | nan s f => unfold ford Format.order at hg; rw [hx] at hg; simp [Datum.order] at hg
    | infinity s => exact write_some (d := some _) rfl rfl
    | number t n j =>
      by_cases hn : n = 0
      · unfold ford Format.order at hg
        rw [hx, h0, hn] at hg
        have e1 : ∀ k, signed t 0 k = 0 := fun k => by cases t <;> simp [signed]
        have e2 : ∀ k, signed false 0 k = 0 := fun k => by simp [signed]
        simp [Datum.order, e1, e2] at hg
      · unfold Datum.quotient
        simp only [if_neg hn]
        exact write_some rfl rfl
  obtain ⟨ms, js, hs1, hs2⟩ := read_fin hS
  have hm0 : ms ≠ 0 := by
    intro e
    have : unitsOf (rung S) = 0 := by rw [← hs2, e]; simp
    unfold fv uv at hS0
    rw [this] at hS0
    have e0 : (if sgn S = true then -((0 : Nat) : Int) else ((0 : Nat) : Int)) = 0 := by split <;> rfl
    rw [e0, Rat.div_def] at hS0
    rw [show ((0 : Int) : Rat) = 0 from rfl, Rat.zero_mul] at hS0
    exact absurd hS0 (by decide)
  unfold fmul Format.mul
  rw [hs1]
  cases hx : double.read (fdiv v g) with
  | nan s f => unfold isN at hq; rw [hx] at hq; cases hq
  | infinity s => unfold Datum.product; simp only [if_neg hm0]; exact write_some rfl rfl
  | number t n j => exact write_some (d := some _) rfl rfl

/-- What is written is a word. -/
theorem write_word {d : Datum} (h : d.isNaN = false) : ∃ s r, r ≤ 9218868437227405312 ∧ double.write d = double.word s r := by
  have hI : double.infRung = 9218868437227405312 := by decide +kernel
  cases d with
  | number s m e =>
    show ∃ s' r, r ≤ _ ∧ double.nearest s m e = double.word s' r
    unfold Format.nearest
    split
    · exact ⟨s, 0, by omega, rfl⟩
    · exact ⟨s, _, by rw [← hI]; exact Nat.min_le_right _ _, rfl⟩
  | infinity s => exact ⟨s, double.infRung, by rw [hI]; omega, rfl⟩
  | nan s f => cases h
theorem pl_word (s : Bool) {r : Nat} (h : r ≤ 9218868437227405312) : pl (double.word s r) = if s then -(r : Int) else r := by
  unfold pl
  rw [notN_word s h, sgn_word s (by omega), rung_word s (by omega)]
  rfl
theorem word_of_pl {s t : Bool} {r q : Nat} (hr : r ≤ 9218868437227405312) (hq : q ≤ 9218868437227405312) (h : pl (double.word s r) = pl (double.word t q)) (h0 : 0 < pl (double.word s r)) : double.word s r = double.word t q := by
  rw [pl_word s hr] at h h0
  rw [pl_word t hq] at h
  cases s <;> cases t <;> simp at h h0 <;> first | (exfalso; omega) | (rw [show r = q by omega])
theorem getD_word {o : Option Datum} (h : isN ((o.map double.write).getD nanc) = false) (hn : ∀ x, o = some x → x.isNaN = false) : ∃ s r, r ≤ 9218868437227405312 ∧ (o.map double.write).getD nanc = double.word s r := by
  cases o with
  | none => rw [show ((none : Option Datum).map double.write).getD nanc = nanc from rfl, isN_nanc] at h; cases h
  | some x => exact write_word (hn x rfl)
theorem mul_word {x y : Nat} (h : isN (fmul x y) = false) : ∃ s r, r ≤ 9218868437227405312 ∧ fmul x y = double.word s r := getD_word h fun _ hx => product_notN hx
theorem div_word {x y : Nat} (h : isN (fdiv x y) = false) : ∃ s r, r ≤ 9218868437227405312 ∧ fdiv x y = double.word s r := getD_word h fun _ hx => quotient_notN hx

theorem pl_pos {x : Nat} (hx : isF x) (h0 : 0 < fv x) : 0 < pl x := by
  have h1 := (uv_lt_iff fv_zero.1 hx).1
  have h2 : uv 0 < uv x := by
    rw [← Int.not_le]
    intro h
    have := fv_le.2 h
    rw [fv_zero.2] at this
    grind
  have h3 := h1 h2
  rwa [show pl 0 = 0 by decide +kernel] at h3

/-- The builtin's lesser one. -/
theorem min_eq {a z : Nat} (ha : isF a) (ha0 : 0 < fv a) (hz : isN z = false) (wa : ∃ s r, r ≤ 9218868437227405312 ∧ a = double.word s r) (wz' : ∃ s r, r ≤ 9218868437227405312 ∧ z = double.word s r) : (if flt z a = true then z else a) = fmin a z := by
  have hna := isF_notN ha
  have h1 := ford_pl hna hz
  have h2 := ford_pl hz hna
  unfold fmin flt
  rw [h1, h2]
  rcases Int.lt_trichotomy (pl a) (pl z) with h | h | h
  · rw [Std.compare_eq_lt.2 h, Std.compare_eq_gt.2 h]; rfl
  · have hzz : a = z := by
      obtain ⟨s, r, hr, rfl⟩ := wa
      obtain ⟨t, q, hq, rfl⟩ := wz'
      exact word_of_pl hr hq h (pl_pos ha ha0)
    rw [h, show compare (pl z) (pl z) = .eq from Std.ReflCmp.compare_self, hzz]
    simp
  · rw [Std.compare_eq_gt.2 h, Std.compare_eq_lt.2 h]; rfl

theorem word_f {x : Nat} (h : ∃ s r, r ≤ 9218868437227405312 ∧ x = double.word s r) : True := trivial

/-- What a sound window gives. -/
theorem snd_facts {F T N : Int} {ss : List Smp} {m : Nat} (h : sndB F T N ss (m + 2) = true) :
    1 ≤ tS ss 0 - F ∧ tS ss 0 - F ≤ 18014398509481984 ∧ 1 ≤ tS ss (m + 1) - tS ss 0 ∧ tS ss (m + 1) - tS ss 0 ≤ 18014398509481984 ∧ 0 ≤ T - tS ss (m + 1) ∧ T - tS ss (m + 1) ≤ 18014398509481984 := by
  unfold sndB at h
  rw [Bool.and_eq_true, Bool.and_eq_true, decide_eq_true_eq] at h
  obtain ⟨hf, hok, hl⟩ := h
  have hf := of_decide_eq_true hf
  have k1 := okK_step (k := 0) (okK_le (j := 1) (by omega) hok)
  have k2 := okK_step hok
  have k3 := lastT_mono (F := F) (ss := ss) (j := 1) (k := m + 1) (by omega) k2.1
  rw [lastT_succ] at hl k3
  have e0 : lastT F ss 0 = F := rfl
  rw [e0] at k1
  have := k1.2.2
  have := k2.2.2
  omega
theorem w64_small {z : Int} (h1 : 0 ≤ z) (h2 : z ≤ 18014398509481984) : wrap64 z = z := by unfold wrap64; omega

end Go.Proofs.YtoeldcgclaiokaaGreat
