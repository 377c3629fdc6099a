/- Decimal numerals, the text of a duration, of seconds. No program here. -/
import Derived.Test.YtmgnhekpgeahmaaDoorDur
import Derived.Test.YtmgnhekpgeahmaaDoorDigL
import Derived.Lib.ItoaNum
namespace Go.Dur
open Go.Lib (decDigits nDigits decDigits_length)

/-- At least k digits. -/
def dcm (n k : Nat) : List UInt8 := if n = 0 ∧ k = 0 then [] else dcm (n / 10) (k - 1) ++ [UInt8.ofNat (48 + n % 10)]
termination_by n + k
decreasing_by omega
theorem dcm_stop : dcm 0 0 = [] := by rw [dcm]; simp
theorem dcm_step {n k : Nat} (h : ¬ (n = 0 ∧ k = 0)) : dcm n k = dcm (n / 10) (k - 1) ++ [UInt8.ofNat (48 + n % 10)] := by rw [dcm, if_neg h]
theorem dec_small {u : Nat} (h : u < 10) : decDigits u = [UInt8.ofNat (48 + u)] := by rw [decDigits, dif_pos h]
theorem dec_big {u : Nat} (h : ¬ u < 10) : decDigits u = decDigits (u / 10) ++ [UInt8.ofNat (48 + u % 10)] := by rw [decDigits, dif_neg h]

theorem dcm_nought (n : Nat) : n ≠ 0 → dcm n 0 = decDigits n := by
  induction n using Nat.strongRecOn with
  | _ n ih =>
    intro h
    rw [dcm_step (by omega)]
    by_cases h10 : n < 10
    · rw [show n / 10 = 0 by omega, dcm_stop, dec_small h10, show n % 10 = n by omega]; rfl
    · rw [ih (n / 10) (by omega) (by omega), dec_big h10]
theorem dcm_one (n : Nat) : dcm n 1 = decDigits n := by
  rw [dcm_step (by omega)]
  by_cases h10 : n < 10
  · rw [show n / 10 = 0 by omega, dcm_stop, dec_small h10, show n % 10 = n by omega]; rfl
  · rw [dcm_nought _ (by omega), dec_big h10]

theorem ofNat_dgt (n p : Nat) {q : Nat} (h : q % 10 = n / p % 10) : UInt8.ofNat (48 + q % 10) = dgt n p := by unfold dgt; rw [h]
theorem dcm_two {n : Nat} (h : n ≤ 99) : dcm n 2 = dig2 n := by
  rw [dcm_step (by omega), dcm_step (by omega), show n / 10 / 10 = 0 by omega, show 2 - 1 - 1 = 0 from rfl, dcm_stop, ofNat_dgt n 10 rfl, ofNat_dgt n 1 (by omega)]
  rfl
def dig3 (n : Nat) : List UInt8 := [dgt n 100, dgt n 10, dgt n 1]
theorem dcm_three {n : Nat} (h : n ≤ 999) : dcm n 3 = dig3 n := by
  rw [dcm_step (by omega), dcm_step (by omega), dcm_step (by omega), show n / 10 / 10 / 10 = 0 by omega, show 3 - 1 - 1 - 1 = 0 from rfl, dcm_stop, ofNat_dgt n 100 (by omega), ofNat_dgt n 10 rfl, ofNat_dgt n 1 (by omega)]
  rfl
theorem dcm_four {n : Nat} (h : n ≤ 9999) : dcm n 4 = dig4 n := by
  rw [dcm_step (by omega), dcm_step (by omega), dcm_step (by omega), dcm_step (by omega), show n / 10 / 10 / 10 / 10 = 0 by omega, show 4 - 1 - 1 - 1 - 1 = 0 from rfl, dcm_stop, ofNat_dgt n 1000 (by omega), ofNat_dgt n 100 (by omega), ofNat_dgt n 10 rfl, ofNat_dgt n 1 (by omega)]
  rfl

theorem dec_ne (n : Nat) : decDigits n ≠ [] := by
  by_cases h : n < 10
  · rw [dec_small h]; simp
  · rw [dec_big h]; simp
theorem dec_len (k : Nat) : ∀ n, n < 10 ^ (k + 1) → (decDigits n).length ≤ k + 1 := by
  induction k with
  | zero => intro n h; rw [dec_small (by simpa using h)]; simp
  | succ k ih =>
    intro n h
    by_cases h10 : n < 10
    · rw [dec_small h10]; simp
    · rw [dec_big h10, List.length_append]
      rw [Nat.pow_succ] at h
      have := ih (n / 10) (by omega)
      simp; omega
theorem byte48 (d : Nat) (h : d < 10) : (UInt8.ofNat (48 + d)).toNat = 48 + d := by
  rw [UInt8.toNat_ofNat_of_lt']
  have : UInt8.size = 256 := rfl
  omega
theorem dec_dig (n : Nat) : ∀ c, c ∈ decDigits n → isD c.toNat = true := by
  induction n using Nat.strongRecOn with
  | _ n ih =>
    intro c hc
    by_cases h : n < 10
    · rw [dec_small h] at hc
      rw [List.mem_singleton.1 hc, byte48 n h]; unfold isD; simp; omega
    · rw [dec_big h] at hc
      rcases List.mem_append.1 hc with hc | hc
      · exact ih (n / 10) (by omega) c hc
      · rw [List.mem_singleton.1 hc, byte48 (n % 10) (by omega)]; unfold isD; simp; omega

/-- Only the bytes count. -/
theorem decN_eq {s t : ByteArray} {k : Nat} (h : ∀ i, i < k → bt s i = bt t i) : decN s k = decN t k := by
  induction k with
  | zero => rfl
  | succ k ih => rw [decN, decN, ih (fun i hi => h i (by omega)), h k (by omega)]
theorem bt_mk (l : List UInt8) (i : Nat) : bt ⟨l.toArray⟩ i = (l.getD i 0).toNat := rfl
theorem decN_dec (n : Nat) : ∀ R : List UInt8, decN ⟨(decDigits n ++ R).toArray⟩ (decDigits n).length = n := by
  induction n using Nat.strongRecOn with
  | _ n ih =>
    intro R
    by_cases h : n < 10
    · rw [dec_small h]
      show 0 * 10 + ((UInt8.ofNat (48 + n)).toNat - 48) = n
      rw [byte48 n h]; omega
    · rw [dec_big h, List.length_append, show ([UInt8.ofNat (48 + n % 10)] : List UInt8).length = 1 from rfl, decN, List.append_assoc, ih (n / 10) (by omega), bt_mk]
      rw [List.getD, List.getElem?_append_right (Nat.le_refl _), Nat.sub_self]
      show n / 10 * 10 + ((UInt8.ofNat (48 + n % 10)).toNat - 48) = n
      rw [byte48 _ (by omega)]; omega

/-! ### The text of a duration -/
def szN : Nat → Nat
  | 0 => 31536000000 | 1 => 604800000 | 2 => 86400000 | 3 => 3600000 | 4 => 60000 | 5 => 1000 | _ => 1
def nmL : Nat → List UInt8
  | 0 => [121] | 1 => [119] | 2 => [100] | 3 => [104] | 4 => [109] | 5 => [115] | _ => [109, 115]
/-- What is left when the first u units are off. -/
def rst : Nat → Nat → Nat
  | 0, m => m
  | u + 1, m => rst u m % szN u
/-- A unit's part. -/
def uP (u m : Nat) : List UInt8 := if m / szN u = 0 then [] else decDigits (m / szN u) ++ nmL u
/-- The parts of the first u units. -/
def tx : Nat → Nat → List UInt8
  | 0, _ => []
  | u + 1, m => tx u m ++ uP u (rst u m)
/-- The parts of the last f units, of m. -/
def txt : Nat → Nat → List UInt8
  | 0, _ => []
  | f + 1, m => uP (6 - f) m ++ txt f (m % szN (6 - f))
theorem szN_pos (u : Nat) : 0 < szN u ∧ szN u ≤ 31536000000 := by
  match u with
  | 0 | 1 | 2 | 3 | 4 | 5 => simp [szN]
  | u + 6 => simp [szN]
theorem tx_txt (f : Nat) : ∀ u m, u + f = 7 → tx 7 m = tx u m ++ txt f (rst u m) := by
  induction f with
  | zero => intro u m h; obtain rfl : u = 7 := by omega
            rw [txt, List.append_nil]
  | succ f ih =>
    intro u m h
    rw [ih (u + 1) m (by omega), tx, txt, show 6 - f = u by omega, List.append_assoc]
    rfl
theorem tx_all (m : Nat) : tx 7 m = txt 7 m := tx_txt 7 0 m rfl

theorem getD_app_r (A B : List UInt8) (i : Nat) : (A ++ B).getD (A.length + i) 0 = B.getD i 0 := by
  rw [List.getD, List.getElem?_append_right (by omega), show A.length + i - A.length = i by omega]; rfl
theorem getD_app_l (A B : List UInt8) {i : Nat} (h : i < A.length) : (A ++ B).getD i 0 = A.getD i 0 := by
  rw [List.getD, List.getElem?_append_left h]; rfl
theorem bt_app (A B : List UInt8) (i : Nat) : bt ⟨(A ++ B).toArray⟩ (A.length + i) = bt ⟨B.toArray⟩ i := by
  rw [bt_mk, bt_mk, getD_app_r]

/-- A run of digits within a text. -/
theorem runE_app (A : List UInt8) (D : List UInt8) : ∀ (R : List UInt8), (∀ c, c ∈ D → isD c.toNat = true) → isD (bt ⟨R.toArray⟩ 0) = false → runE ⟨(A ++ D ++ R).toArray⟩ A.length = A.length + D.length := by
  induction D generalizing A with
  | nil =>
    intro R _ hr
    rw [List.append_nil]
    have hb := bt_app A R 0
    rw [Nat.add_zero] at hb
    rw [runE_stop (by rw [hb, hr]; simp)]
    rfl
  | cons c D ih =>
    intro R hd hr
    have hb := bt_app A (c :: D ++ R) 0
    rw [Nat.add_zero] at hb
    have h0 : bt ⟨(c :: D ++ R).toArray⟩ 0 = c.toNat := rfl
    rw [h0, ← List.append_assoc] at hb
    rw [runE_step (by show A.length < (A ++ c :: D ++ R).toArray.size; simp) (by rw [hb]; exact hd c (List.mem_cons_self))]
    have := ih (A ++ [c]) R (fun x hx => hd x (List.mem_cons_of_mem _ hx)) hr
    rw [List.append_assoc A [c] D] at this
    rw [show A.length + 1 = (A ++ [c]).length by simp]
    rw [show A ++ c :: D ++ R = A ++ ([c] ++ D) ++ R from rfl, this]
    simp; omega

/-- Does the text go on with a digit, or end in what is no digit and no s? -/
def Tail (R : List UInt8) : Prop := bt ⟨R.toArray⟩ 0 ≠ 115
theorem dec_head (n : Nat) (R : List UInt8) : isD (bt ⟨(decDigits n ++ R).toArray⟩ 0) = true := by
  have h := dec_ne n
  have hd := dec_dig n
  cases hl : decDigits n with
  | nil => exact absurd hl h
  | cons c r =>
    rw [hl] at hd
    exact hd c (List.mem_cons_self)
theorem txt_tail (f : Nat) : ∀ m (Z : List UInt8), Tail Z → Tail (txt f m ++ Z) := by
  induction f with
  | zero => intro m Z hz; exact hz
  | succ f ih =>
    intro m Z hz
    rw [txt]
    by_cases h : m / szN (6 - f) = 0
    · rw [uP, if_pos h, List.nil_append]; exact ih _ Z hz
    · rw [uP, if_neg h, List.append_assoc, List.append_assoc]
      intro hb
      have := dec_head (m / szN (6 - f)) (nmL (6 - f) ++ (txt f (m % szN (6 - f)) ++ Z))
      rw [hb] at this
      exact absurd this (by decide)

theorem unit_app (A : List UInt8) (u : Nat) (hu : u ≤ 6) (R : List UInt8) (hr : Tail R) : unitOf ⟨(A ++ (nmL u ++ R)).toArray⟩ A.length = ((nmL u).length, szN u, u + 1) := by
  have hsz : (⟨(A ++ (nmL u ++ R)).toArray⟩ : ByteArray).size = A.length + ((nmL u).length + R.length) := by show (A ++ (nmL u ++ R)).toArray.size = _; simp
  have b0 := bt_app A (nmL u ++ R) 0
  have b1 := bt_app A (nmL u ++ R) 1
  rw [Nat.add_zero] at b0
  unfold unitOf
  rw [b0, b1, hsz]
  match u, hu with
  | 0, _ => rw [if_neg (by simp [nmL]; omega)]; rfl
  | 1, _ => rw [if_neg (by simp [nmL]; omega)]; rfl
  | 2, _ => rw [if_neg (by simp [nmL]; omega)]; rfl
  | 3, _ => rw [if_neg (by simp [nmL]; omega)]; rfl
  | 4, _ =>
    have h1 : bt ⟨(nmL 4 ++ R).toArray⟩ 1 = bt ⟨R.toArray⟩ 0 := rfl
    have h109 : bt ⟨(nmL 4 ++ R).toArray⟩ 0 = 109 := rfl
    rw [if_neg (by simp [nmL]; omega), h109, h1, if_neg (show ¬ (109 : Nat) = 121 by omega), if_neg (show ¬ (109 : Nat) = 119 by omega), if_neg (show ¬ (109 : Nat) = 100 by omega), if_neg (show ¬ (109 : Nat) = 104 by omega), if_pos rfl, if_neg (fun h => hr h.2)]
    rfl
  | 5, _ => rw [if_neg (by simp [nmL]; omega)]; rfl
  | 6, _ =>
    have hp : A.length + 1 < A.length + ((nmL 6).length + R.length) ∧ bt ⟨(nmL 6 ++ R).toArray⟩ 1 = 115 := ⟨by simp [nmL]; omega, rfl⟩
    have h109 : bt ⟨(nmL 6 ++ R).toArray⟩ 0 = 109 := rfl
    rw [if_neg (by simp [nmL]; omega), h109, if_neg (show ¬ (109 : Nat) = 121 by omega), if_neg (show ¬ (109 : Nat) = 119 by omega), if_neg (show ¬ (109 : Nat) = 100 by omega), if_neg (show ¬ (109 : Nat) = 104 by omega), if_pos rfl, if_pos hp]
    rfl

theorem nm_nodigit (u : Nat) (R : List UInt8) : isD (bt ⟨(nmL u ++ R).toArray⟩ 0) = false := by
  match u with
  | 0 | 1 | 2 | 3 | 4 | 5 => rfl
  | u + 6 => rfl
theorem nm_len (u : Nat) : 1 ≤ (nmL u).length ∧ (nmL u).length ≤ 2 := by
  match u with
  | 0 | 1 | 2 | 3 | 4 | 5 => simp [nmL]
  | u + 6 => simp [nmL]

/-- What is read from a text of the last f units: all of it. -/
theorem meas_txt (f : Nat) : ∀ (A : List UInt8) (m r sum : Nat) (Z : List UInt8), f ≤ 7 → r + f ≤ 7 → sum + m ≤ M → (f = 0 → m = 0) → Tail Z → isD (bt ⟨Z.toArray⟩ 0) = false →
    (1 ≤ f → f ≤ 6 → m < szN (6 - f)) → meas ⟨(A ++ (txt f m ++ Z)).toArray⟩ A.length r sum = (A.length + (txt f m).length, sum + m) := by
  induction f with
  | zero =>
    intro A m r sum Z _ _ _ hm0 _ hzd _
    have hm := hm0 rfl
    subst hm
    have h0 := runE_app A [] Z (by simp) hzd
    rw [List.append_nil] at h0
    rw [meas_stop (by unfold goesOn; rw [show txt 0 0 ++ Z = Z from rfl, h0]; simp)]
    rfl
  | succ f ih =>
    intro A m r sum Z hf hr hsum _ hz hzd hlt
    have hsp := szN_pos (6 - f)
    have hmod : m % szN (6 - f) < szN (6 - f) := Nat.mod_lt _ hsp.1
    have hdm := Nat.div_add_mod m (szN (6 - f))
    have hf0 : f = 0 → m % szN (6 - f) = 0 := fun h => by subst h; exact Nat.mod_one m
    have hlt' : 1 ≤ f → f ≤ 6 → m % szN (6 - f) < szN (6 - f) := fun _ _ => hmod
    by_cases h : m / szN (6 - f) = 0
    · have e1 : txt (f + 1) m = txt f (m % szN (6 - f)) := by rw [txt, uP, if_pos h, List.nil_append]
      have e2 : m % szN (6 - f) = m := by rw [h, Nat.mul_zero, Nat.zero_add] at hdm; exact hdm
      rw [e1]
      have := ih A (m % szN (6 - f)) r sum Z (by omega) (by omega) (by rw [e2]; exact hsum) hf0 hz hzd hlt'
      rw [this, e2]
    · obtain ⟨n, hn⟩ : ∃ n, n = m / szN (6 - f) := ⟨_, rfl⟩
      have e1 : txt (f + 1) m = decDigits n ++ nmL (6 - f) ++ txt f (m % szN (6 - f)) := by rw [txt, uP, if_neg h, hn]
      rw [e1]
      obtain ⟨R, hR⟩ : ∃ R, R = txt f (m % szN (6 - f)) ++ Z := ⟨_, rfl⟩
      have hRt : Tail R := by rw [hR]; exact txt_tail f _ Z hz
      have eS : A ++ (decDigits n ++ nmL (6 - f) ++ txt f (m % szN (6 - f)) ++ Z) = A ++ decDigits n ++ (nmL (6 - f) ++ R) := by rw [hR]; simp [List.append_assoc]
      rw [eS]
      have hrun := runE_app A (decDigits n) (nmL (6 - f) ++ R) (dec_dig n) (nm_nodigit _ _)
      have hun := unit_app (A ++ decDigits n) (6 - f) (by omega) R hRt
      rw [List.length_append] at hun
      have hdl : 1 ≤ (decDigits n).length := by
        have := dec_ne n
        cases hl : decDigits n with
        | nil => exact absurd hl this
        | cons c r => simp
      have hnl := nm_len (6 - f)
      have hsz : (⟨(A ++ decDigits n ++ (nmL (6 - f) ++ R)).toArray⟩ : ByteArray).size = A.length + ((decDigits n).length + ((nmL (6 - f)).length + R.length)) := by
        show (A ++ decDigits n ++ (nmL (6 - f) ++ R)).toArray.size = _
        simp
      have hgo : goesOn ⟨(A ++ decDigits n ++ (nmL (6 - f) ++ R)).toArray⟩ A.length r = true := by
        unfold goesOn
        rw [hrun, hun, Bool.and_eq_true, Bool.and_eq_true]
        exact ⟨⟨decide_eq_true (by omega), decide_eq_true (by dsimp only; omega)⟩, decide_eq_true (by dsimp only; omega)⟩
      rw [meas_step (by rw [hsz]; omega) hgo]
      have hval : decN ((⟨(A ++ decDigits n ++ (nmL (6 - f) ++ R)).toArray⟩ : ByteArray).extract A.length (A.length + (decDigits n).length)) (A.length + (decDigits n).length - A.length) = n := by
        have hd := decN_dec n (nmL (6 - f) ++ R)
        have hle2 : A.length + (decDigits n).length ≤ (⟨(A ++ decDigits n ++ (nmL (6 - f) ++ R)).toArray⟩ : ByteArray).size := by rw [hsz]; omega
        rw [Nat.add_sub_cancel_left]
        refine Eq.trans (decN_eq fun i hi => ?_) hd
        rw [bt_extract _ hle2 (by rw [Nat.add_sub_cancel_left]; exact hi), List.append_assoc, bt_app]
      have hle : n * szN (6 - f) ≤ m := by rw [hn]; exact Nat.div_mul_le_self _ _
      have hpart : partN ⟨(A ++ decDigits n ++ (nmL (6 - f) ++ R)).toArray⟩ A.length = n * szN (6 - f) := by
        unfold partN
        rw [hrun, hun, hval]
        unfold manyN
        rw [if_neg (by
          intro hlt2
          have := (Nat.div_lt_iff_lt_mul hsp.1).1 hlt2
          omega)]
      rw [hpart, hrun, hun]
      dsimp only
      rw [Nat.min_eq_left (by omega)]
      have hm2 : n * szN (6 - f) + m % szN (6 - f) = m := by rw [hn, Nat.mul_comm]; exact hdm
      have := ih (A ++ decDigits n ++ nmL (6 - f)) (m % szN (6 - f)) (6 - f + 1) (sum + n * szN (6 - f)) Z (by omega) (by omega) (by omega) hf0 hz hzd hlt'
      rw [← hR, List.append_assoc (A ++ decDigits n) (nmL (6 - f)) R, List.length_append, List.length_append] at this
      rw [this]
      simp only [List.length_append, Prod.mk.injEq]
      omega

theorem uP_len (u : Nat) (k m : Nat) (h : m / szN u < 10 ^ (k + 1)) : (uP u m).length ≤ k + 3 := by
  unfold uP
  split
  · simp
  · have := dec_len k _ h
    have := nm_len u
    rw [List.length_append]; omega
theorem txt_len (m : Nat) (h : m ≤ M) : (txt 7 m).length ≤ 60 := by
  have hM : M = 315360000000000 := rfl
  have s0 := uP_len 0 4 m (by simp [szN]; omega)
  have s1 := uP_len 1 4 (m % szN 0) (by simp [szN]; omega)
  have s2 := uP_len 2 4 (m % szN 0 % szN 1) (by simp [szN]; omega)
  have s3 := uP_len 3 4 (m % szN 0 % szN 1 % szN 2) (by simp [szN]; omega)
  have s4 := uP_len 4 4 (m % szN 0 % szN 1 % szN 2 % szN 3) (by simp [szN]; omega)
  have s5 := uP_len 5 4 (m % szN 0 % szN 1 % szN 2 % szN 3 % szN 4) (by simp [szN]; omega)
  have s6 := uP_len 6 4 (m % szN 0 % szN 1 % szN 2 % szN 3 % szN 4 % szN 5) (by simp [szN]; omega)
  have e : txt 7 m = uP 0 m ++ (uP 1 (m % szN 0) ++ (uP 2 (m % szN 0 % szN 1) ++ (uP 3 (m % szN 0 % szN 1 % szN 2) ++ (uP 4 (m % szN 0 % szN 1 % szN 2 % szN 3) ++ (uP 5 (m % szN 0 % szN 1 % szN 2 % szN 3 % szN 4) ++ (uP 6 (m % szN 0 % szN 1 % szN 2 % szN 3 % szN 4 % szN 5) ++ [])))))) := rfl
  rw [e]
  simp only [List.length_append, List.length_nil]
  omega
theorem tx_len (m : Nat) (h : m ≤ M) (u : Nat) (hu : u ≤ 7) : (tx u m).length ≤ 60 := by
  have h1 := tx_txt (7 - u) u m (by omega)
  have h2 := txt_len m h
  rw [← tx_all, h1, List.length_append] at h2
  omega
theorem txt_ne (m : Nat) (h : 0 < m) : txt 7 m ≠ [] := by
  intro he
  have hl : (txt 7 m).length = 0 := by rw [he]; rfl
  have all : ∀ f k, (txt f k).length = 0 → f ≤ 7 → 1 ≤ f → k = 0 := by
    intro f
    induction f with
    | zero => intro k _ _ h; omega
    | succ f ih =>
      intro k hk hf _
      rw [txt, List.length_append] at hk
      have hu : (uP (6 - f) k).length = 0 := by omega
      have hz : k / szN (6 - f) = 0 := by
        refine Classical.byContradiction fun hne => ?_
        unfold uP at hu
        rw [if_neg hne, List.length_append] at hu
        have := nm_len (6 - f)
        omega
      have hdm := Nat.div_add_mod k (szN (6 - f))
      rw [hz, Nat.mul_zero, Nat.zero_add] at hdm
      by_cases hf0 : f = 0
      · subst hf0
        have : k % szN (6 - 0) = 0 := Nat.mod_one k
        omega
      · have := ih (k % szN (6 - f)) (by omega) (by omega) (by omega)
        omega
  have := all 7 m hl (by omega) (by omega)
  omega
end Go.Dur
